/- Words and laws for identities (arrays of 32 bytes) and for slices of them, over any program. -/
import Derived.WalkKit
import Derived.ProofKit
import Derived.OpenShut
import Derived.Below
import Derived.BigQuiet
import Derived.WalkSpells
import Derived.Outline
import Derived.Deep.MidRow
import Derived.Deep.DeepFit
import Derived.Deep.DeepMust
import Derived.Deep.AppendLies
import Derived.Deep.RegionHeld3
import Derived.Deep.LoopGhost
import Derived.Maps.AppendAt
import Derived.Lib.Hide
import Derived.ChangeKeysEq
namespace Go.Proofs.Ytafpndmoognjlaa
open Go.ChangeShapes Go.WideShapes Go.ChangeAt Go.RowKit

theorem ret_bool {a b : Bool} (h : a = b) : Ending.returned (.bool a) = .returned (.bool b) := by rw [h]
theorem ret_int {k : IntKind} {a b : Int} (h : a = b) : Ending.returned (.int k a) = .returned (.int k b) := by rw [h]
/-- the cells of an identity -/
def idc (l : List UInt8) : List Value := l.map fun b => Value.int .u8 b.toNat
/-- an identity as a value -/
def idv (l : List UInt8) : Value := .agg (idc l).toArray
theorem idc_length (l : List UInt8) : (idc l).length = l.length := by simp [idc]
theorem idc_inj {l m : List UInt8} (h : idc l = idc m) : l = m := by
  unfold idc at h
  refine List.map_inj_right ?_ |>.1 h
  intro x y h
  injection h with _ h
  exact UInt8.toNat_inj.1 (by omega)
theorem idc_one (l : List UInt8) : ∀ u ∈ idc l, u.oneCell' = true := by
  intro u hu
  unfold idc at hu
  obtain ⟨b, _, rfl⟩ := List.mem_map.1 hu
  rfl

/-- an identity lies in memory -/
structure IdAt (w : World) (a : Addr) (l : List UInt8) : Prop where
  len : l.length = 32
  cells : ∀ j v, (idc l)[j]? = some v → w.cell? (a.add j) = some v

theorem Addr.add_add' (a : Addr) (i j : Nat) : (a.add i).add j = a.add (i + j) := by
  unfold Addr.add
  by_cases hi : i = 0 <;> by_cases hj : j = 0 <;> simp [hi, hj, Nat.add_assoc]
theorem Addr.add_block (a : Addr) (n : Nat) : (a.add n).block = a.block := by unfold Addr.add; split <;> rfl

theorem IdAt.keep {w w' : World} {a : Addr} {l : List UInt8} (h : IdAt w a l) (hk : ∀ p : Addr, p.block = a.block → w'.cell? p = w.cell? p) : IdAt w' a l :=
  ⟨h.len, fun j v hv => (hk _ (Addr.add_block _ _)).trans (h.cells j v hv)⟩
theorem IdAt.lt {w : World} {a : Addr} {l : List UInt8} (h : IdAt w a l) : a.block < w.heap.size := by
  have hv : (idc l)[0]? = some ((idc l)[0]'(by rw [idc_length, h.len]; omega)) := List.getElem?_eq_getElem _
  have := World.block_lt_of_cell? w _ (h.cells 0 _ hv)
  rwa [Addr.add_block] at this
theorem IdAt.below {w w' : World} {a : Addr} {l : List UInt8} (h : IdAt w a l) (hb : Below w.heap.size w w') : IdAt w' a l :=
  h.keep fun p hp => hb.cell (by rw [hp]; exact h.lt)

theorem IdAt.alloc {w : World} {a : Addr} {l : List UInt8} (h : IdAt w a l) (o : Obj) : IdAt (w.alloc o) a l := h.keep fun p hp => World.cell?_alloc_lt w o p (by rw [hp]; exact h.lt)
theorem IdAt.drewN {w : World} {a : Addr} {l : List UInt8} (h : IdAt w a l) (n : Nat) : IdAt (w.drewN n) a l := h.keep fun _ _ => by simp
/-- a type of identities -/
def isId (P : Program) (t : TypeId) : Bool :=
  (match P.underlying t with
   | some (.array 32 e) => (match P.underlying e with | some (.int .u8) => true | _ => false) && P.cellsOf e == 1 && ((P.info? e).isSome) && P.stoodInHeld e == false
   | _ => false) && ((P.info? t).map (·.size)) == some 32

theorem isId_parts {P : Program} {t : TypeId} (h : isId P t = true) : ∃ e i, P.underlying t = some (.array 32 e) ∧ P.underlying e = some (.int .u8) ∧ P.cellsOf e = 1 ∧ P.info? e = some i ∧ (P.info? t).map (·.size) = some 32 := by
  unfold isId at h
  rw [Bool.and_eq_true] at h
  obtain ⟨h1, h2⟩ := h
  split at h1
  · rename_i e he
    simp only [Bool.and_eq_true, beq_iff_eq] at h1
    obtain ⟨⟨⟨h3, h4⟩, h5⟩, _⟩ := h1
    split at h3
    · rename_i he2
      obtain ⟨i, hi⟩ := Option.isSome_iff_exists.1 h5
      exact ⟨e, i, he, he2, h4, hi, by simpa using h2⟩
    · cases h3
  · cases h1

section
variable {P : Program}
theorem run_load_id (w : World) {a : Addr} {l : List UInt8} {t : TypeId} (h : IdAt w a l) (ht : isId P t = true) :
    (Instr.loadAt t (.pointer (some a))).run P w = .ok (idv l) w := by
  obtain ⟨e, i, hu, _, _, _, hs⟩ := isId_parts ht
  have hl : (loadCells a 32).run P w = .ok (idc l).toArray w := by
    have := run_loadCells_list (P := P) w a (idc l) h.cells
    rwa [idc_length, h.len] at this
  have hv : (loadVar t a).run P w = .ok (idv l) w := by
    cases hq : P.info? t with
    | none => simp [hq] at hs
    | some i =>
      have hs' : i.size = 32 := by simpa [hq] using hs
      have hagg : (isAgg t).run P w = .ok true w := by
        unfold isAgg
        rw [Sem.run_bind, run_underlying hu w]
        rfl
      simp [loadVar, Sem.run_bind, hagg, sizeOf, typeInfo, hq, hs', hl, idv]
  simp only [Instr.loadAt, Instr.sureAddr, Sem.run_bind, Sem.run_pure, Result.andThen_ok, hv]

theorem yieldsIf_load_id {ops : Array Oper} {S : World → Prop} {o : Oper} {a : Act} (hw : Region.wanted o (yielded ops a.tmps) = true) (t : TypeId) (x : Operand) (ho : o.op = .load t x)
    (ad : Addr) (hx : a.eval x = .pointer (some ad)) (l : List UInt8) (ht : isId P t = true) (hS : ∀ w, S w → IdAt w ad l) : YieldsIf P ops S o (idv l) a :=
  .inl ⟨hw, fun w h => by
    unfold execOp
    simp only [ho, hx, Sem.run_bind, Sem.run_pure, Result.andThen_ok, run_load_id w (hS w h) ht]⟩
theorem wp_load_id {o : Oper} {a : Act} {w : World} {K : Act → World → Prop} {Q : Exit → Act → World → Prop} (t : TypeId) (x : Operand) (ho : o.op = .load t x)
    (ad : Addr) (hx : a.eval x = .pointer (some ad)) (l : List UInt8) (ht : isId P t = true) (hc : IdAt w ad l) (h : K (a.put o.dst (idv l)) w) : o.wp P a w K Q := by
  unfold Oper.wp execOp
  simp only [ho, hx, Sem.run_bind, Sem.run_pure, Result.andThen_ok, run_load_id w hc ht]
  exact h

theorem wpList_load_id {ops : Array Oper} {rest : List Oper} {o : Oper} {a : Act} {w : World} {Q : Exit → Act → World → Prop} (hgd : o.guard = none) (t : TypeId) (x : Operand) (ho : o.op = .load t x)
    (ad : Addr) (hx : a.eval x = .pointer (some ad)) (l : List UInt8) (ht : isId P t = true) (hc : IdAt w ad l) (h : wpList P ops Q rest (a.put o.dst (idv l)) w) : wpList P ops Q (o :: rest) a w :=
  wpList_plain hgd fun _ hK => wp_load_id t x ho ad hx l ht hc (hK _ _ h)

theorem wpQuiet_load_id {ops : Array Oper} {C : World → Prop} {Q : Act → Prop} {a : Act} {o : Oper} {rest : List Oper} (hw : Region.wanted o (yielded ops a.tmps) = true) (t : TypeId) (x : Operand) (ho : o.op = .load t x)
    (ad : Addr) (hx : a.eval x = .pointer (some ad)) (l : List UInt8) (ht : isId P t = true) (hc : ∀ w, C w → IdAt w ad l) (h : wpQuiet P ops C Q rest (a.put o.dst (idv l))) : wpQuiet P ops C Q (o :: rest) a := by
  refine BigFrame.wpQuiet_want hw fun K hK => ⟨idv l, fun w hCw => ?_, hK _ h⟩
  unfold Oper.quietAt execOp
  simp only [ho, hx, Sem.run_bind, Sem.run_pure, Result.andThen_ok, run_load_id w (hc w hCw) ht]
  exact ⟨rfl, rfl⟩

theorem idc_at (l : List UInt8) (k : Nat) (h : k < l.length) : (idc l).toArray[k]? = some (.int .u8 (l[k]).toNat) := by
  simp [idc, h]
theorem run_part_id (w : World) {e : TypeId} (he : P.underlying e = some (.int .u8)) (l : List UInt8) (k : Nat) (h : k < l.length) :
    (part e (idc l).toArray k).run P w = .ok (.int .u8 (l[k]).toNat) w := by
  simp only [part, isAgg, Sem.run_bind, run_underlying he, Sem.run_pure, Result.andThen_ok, idc_at l k h]
  rfl
theorem eqItems_id (w : World) (d : Nat) {e : TypeId} (he : P.underlying e = some (.int .u8)) (l m : List UInt8) (hl : l.length = 32) (hm : m.length = 32) :
    ∀ n k, k + n = 32 → (Op.eqItems (d + 1) e 1 (idc l).toArray (idc m).toArray (List.range' k n)).run P w = .ok (decide (l.drop k = m.drop k)) w := by
  intro n
  induction n with
  | zero =>
    intro k hk
    have e1 : l.drop k = [] := List.drop_eq_nil_of_le (by omega)
    have e2 : m.drop k = [] := List.drop_eq_nil_of_le (by omega)
    simp [Op.eqItems, e1, e2]
  | succ n ih =>
    intro k hk
    have h1 : k < l.length := by omega
    have h2 : k < m.length := by omega
    rw [List.range'_succ, Op.eqItems, Nat.mul_one]
    simp only [Sem.run_bind, run_part_id w he l k h1, run_part_id w he m k h2, Result.andThen_ok, run_equalIn_int w d e .u8 .u8 _ _ he]
    rw [List.drop_eq_getElem_cons h1, List.drop_eq_getElem_cons h2]
    by_cases hq : l[k] = m[k]
    · rw [show (((l[k].toNat : Nat) : Int) == (m[k].toNat : Nat)) = true from by rw [hq]; simp]
      simp only [Bool.not_true, Bool.false_eq_true, if_false, ih (k + 1) (by omega), hq, List.cons.injEq, true_and]
    · rw [show (((l[k].toNat : Nat) : Int) == (m[k].toNat : Nat)) = false from by
        rw [beq_eq_false_iff_ne]; intro h; exact hq (UInt8.toNat_inj.1 (by omega))]
      simp only [Bool.not_false, if_true, Sem.run_pure, List.cons.injEq, hq, false_and, decide_false]
theorem run_equalIn_id (w : World) (d : Nat) {t : TypeId} (ht : isId P t = true) (l m : List UInt8) (hl : l.length = 32) (hm : m.length = 32) :
    (Op.equalIn (d + 2) t (idv l) (idv m)).run P w = .ok (decide (l = m)) w := by
  obtain ⟨e, i, hu, he, hc, hi, _⟩ := isId_parts ht
  unfold idv
  rw [run_equalIn_array w (d + 1) _ _ hu hi, hc, List.range_eq_range']
  have := eqItems_id w d he l m hl hm 32 0 rfl
  simpa using this
@[go_sem] theorem run_eql_id (w : World) (t : TypeId) (l m : List UInt8) (ht : isId P t = true) (hl : l.length = 32) (hm : m.length = 32) :
    (binOp .eql t (idv l) (idv m)).run P w = .ok (.bool (decide (l = m))) w := by
  rw [idv, idv, run_eql_struct]
  have := run_equalIn_id (P := P) w 9998 ht l m hl hm
  simp only [idv] at this
  rw [this]; rfl
@[go_sem] theorem run_neq_id (w : World) (t : TypeId) (l m : List UInt8) (ht : isId P t = true) (hl : l.length = 32) (hm : m.length = 32) :
    (binOp .neq t (idv l) (idv m)).run P w = .ok (.bool (!decide (l = m))) w := by
  rw [idv, idv, run_neq_struct]
  have := run_equalIn_id (P := P) w 9998 ht l m hl hm
  simp only [idv] at this
  rw [this]; rfl
@[go_sem] theorem run_eqGuard_id (w : World) (op : BinOp) (t : TypeId) (x y : Operand) (l m : List UInt8) (hm : P.eqGuardType P.depth t = false) : (eqGuard op t x y (idv l) (idv m)).run P w = .ok () w :=
  run_eqGuard_agg w op t x y _ _ hm
end

/-! ### Rows of cells -/
/-- the cells from A on are these -/
def Row (w : World) (A : Option Addr) (xs : List Value) : Prop :=
  xs = [] ∨ ∃ ad, A = some ad ∧ ∀ j u, xs[j]? = some u → w.cell? (ad.add j) = some u
section
variable {w w' : World} {A : Option Addr} {xs : List Value}
theorem Row.nil (w : World) (A : Option Addr) : Row w A [] := .inl rfl
theorem Row.lt (h : Row w A xs) (hx : xs ≠ []) : ∀ ad, A = some ad → ad.block < w.heap.size := by
  intro ad e
  rcases h with h | ⟨ad', h1, h⟩
  · exact absurd h hx
  · rw [h1] at e; injection e with e; subst e
    cases xs with
    | nil => exact absurd rfl hx
    | cons u t =>
      have := World.block_lt_of_cell? w _ (h 0 u rfl)
      rwa [Addr.add_block] at this
theorem Row.keep (h : Row w A xs) (hk : ∀ ad, A = some ad → ∀ p : Addr, p.block = ad.block → (w.cell? p).isSome = true → w'.cell? p = w.cell? p) : Row w' A xs := by
  rcases h with h | ⟨ad, rfl, h⟩
  · exact .inl h
  · refine .inr ⟨ad, rfl, fun j u hu => ?_⟩
    rw [hk ad rfl _ (Addr.add_block _ _) (by rw [h j u hu]; rfl)]
    exact h j u hu
theorem isSome_lt {p : Addr} (h : (w.cell? p).isSome = true) : p.block < w.heap.size := by
  obtain ⟨v, hv⟩ := Option.isSome_iff_exists.1 h
  exact World.block_lt_of_cell? w p hv
theorem Row.below (h : Row w A xs) (hb : Below w.heap.size w w') : Row w' A xs := h.keep fun _ _ _ _ hs => hb.cell (isSome_lt hs)
theorem Row.drewN (h : Row w A xs) (n : Nat) : Row (w.drewN n) A xs := h.keep fun _ _ _ _ _ => by simp
theorem Row.drew (h : Row w A xs) : Row w.drew A xs := h.keep fun _ _ _ _ _ => by simp
theorem Row.alloc (h : Row w A xs) (o : Obj) : Row (w.alloc o) A xs := h.keep fun _ _ p _ hs => World.cell?_alloc_lt w o p (isSome_lt hs)
theorem Row.grown (h : Row w A xs) {row : Option Nat} (hg : w.grownBy w' row) (hr : ∀ ad, A = some ad → some ad.block ≠ row) : Row w' A xs :=
  h.keep fun ad e p hp hs => World.cell?_of_block (hg.block p.block (isSome_lt hs) (by rw [hp]; exact hr ad e))
theorem Row.cut (h : Row w A xs) {m : Nat} (c : Prop) [Decidable c] (hc : c → xs.length ≤ m) : Row w (if c then A else A.map (·.add m)) (xs.drop m) := by
  by_cases hcc : c
  · exact .inl (List.drop_eq_nil_of_le (hc hcc))
  · rw [if_neg hcc]
    rcases h with h | ⟨ad, rfl, h⟩
    · exact .inl (by rw [h]; simp)
    · refine .inr ⟨ad.add m, rfl, fun j u hu => ?_⟩
      rw [Addr.add_add']
      exact h _ u (by rw [← hu, List.getElem?_drop])
theorem Row.take (h : Row w A xs) (m : Nat) : Row w A (xs.take m) := by
  rcases h with h | ⟨ad, rfl, h⟩
  · exact .inl (by rw [h]; simp)
  · refine .inr ⟨ad, rfl, fun j u hu => h j u ?_⟩
    rw [List.getElem?_take] at hu
    split at hu
    · exact hu
    · cases hu
/-- what a row of the call's own holds -/
theorem Row.of_own {base : Nat} {e : TypeId} {size n : Nat} {v : Value} (h : w.ownsRow base e size v n xs) : ∃ A c, v = .slice A n c ∧ n ≤ c ∧ c ≤ maxLen ∧ Row w A xs ∧ ∀ ad, A = some ad → base ≤ ad.block := by
  have hc := fun g hg => h.cells (g := g) hg
  rcases h.2 with ⟨rfl, hn⟩ | ⟨g, cap, cur, rfl, hb, _, hncap, hm, _, _⟩
  · subst hn
    have hx : xs = [] := List.eq_nil_of_length_eq_zero (by simpa using h.1)
    exact ⟨none, 0, rfl, Nat.le_refl _, Nat.zero_le _, .inl hx, fun _ e => by cases e⟩
  · exact ⟨_, cap, rfl, hncap, hm, .inr ⟨_, rfl, hc g rfl⟩, fun ad e => by injection e with e; subst e; exact hb⟩
theorem Row.none (h : Row w none xs) : xs = [] := by
  rcases h with h | ⟨_, h, _⟩
  · exact h
  · cases h
/-- a new block -/
theorem Row.new (w : World) (cs : List Value) (e : TypeId) : Row (w.alloc (.cells cs.toArray e)) (some ⟨w.heap.size, 0, Option.none⟩) cs := by
  refine .inr ⟨_, rfl, fun j u hu => ?_⟩
  rw [Addr.add_mid, cell_of_row _ _ _ _ _ _ (heap_alloc_new w _)]
  simpa using hu
theorem own_new (w : World) (base : Nat) (hb : base ≤ w.heap.size) (cs : List Value) (e : TypeId) (n size : Nat) (hn : cs.length = n * size) (hm : n ≤ maxLen) :
    (w.alloc (.cells cs.toArray e)).ownsRow base e size (.slice (some ⟨w.heap.size, 0, Option.none⟩) n n) n cs :=
  ⟨hn, .inr ⟨w.heap.size, n, cs.toArray, rfl, hb, heap_alloc_new w _, Nat.le_refl _, hm, by simpa using hn, by simp [← hn]⟩⟩
end

theorem own_mono {w : World} {base base' : Nat} {e : TypeId} {size n : Nat} {v : Value} {xs : List Value} (h : w.ownsRow base e size v n xs) (hb : base' ≤ base) : w.ownsRow base' e size v n xs := by
  obtain ⟨h1, h2⟩ := h
  refine ⟨h1, ?_⟩
  rcases h2 with h2 | ⟨g, cap, cur, hv, hg, r⟩
  · exact .inl h2
  · exact .inr ⟨g, cap, cur, hv, Nat.le_trans hb hg, r⟩
section
variable {P : Program} (w : World)
theorem run_append_row (base : Nat) (t ty e : TypeId) (i : TypeInfo) (z : Value) (size bytes : Nat) (ht : P.underlying t = some (.slice e)) (hi : P.info? e = some i) (hz : i.zero = some z)
    (hsize : i.size = size) (hby : i.bytes = bytes) (hzs : z.cells.size = size) (hsz : 0 < size)
    (v : Value) (n : Nat) (xs : List Value) (hown : w.ownsRow base e size v n xs)
    (A : Option Addr) (m c : Nat) (news : List Value) (hl : news.length = m * size) (hr : Row w A news) (h1 : ∀ u ∈ news, u.oneCell' = true)
    (h63 : n + m ≤ maxLen) (hbytes : (n + m) * bytes ≤ 140737488355328) (hbase : base ≤ w.heap.size) :
    ∃ v' w', (Builtin.append_ #[t, t] ty #[v, .slice A m c]).run P w = .ok v' w' ∧ w'.ownsRow base e size v' (n + m) (xs ++ news) ∧ w.grownBy w' v.ownBlock ∧
      (v'.ownBlock = v.ownBlock ∨ v'.ownBlock = some w.heap.size) := by
  rcases A with _ | ad
  · have hn := hr.none
    subst hn
    have hm : m = 0 := by
      rcases Nat.eq_zero_or_pos m with h0 | h0
      · exact h0
      · have : 0 < m * size := Nat.mul_pos h0 hsz
        simp at hl; omega
    subst hm
    refine ⟨v, w, ?_, by simpa using hown, World.grownBy.refl w _, .inl rfl⟩
    rcases hown.2 with ⟨rfl, rfl⟩ | ⟨g, cap, cur, rfl, _, _, hnc, _⟩
    · simp [Builtin.append_, run_underlying ht, sizeOf, typeInfo, hi, Builtin.lenOf, Builtin.firstCells]
    · simp [Builtin.append_, run_underlying ht, sizeOf, typeInfo, hi, Builtin.lenOf, Builtin.firstCells, hnc, storeCells]
  · have hcells : ∀ j u, news[j]? = some u → w.cell? (ad.add j) = some u := by
      rcases hr with h | ⟨ad', e, h⟩
      · subst h; intro j u hu; simp at hu
      · injection e with e; subst e; exact h
    obtain ⟨v', w', hrun, h2, h3, _, h5⟩ := run_append_own_at (P := P) w base t ty e i z size bytes ht hi hz hsize hby hzs hsz v n xs hown ad m c news hl hcells h1 h63 hbytes hbase
    exact ⟨v', w', hrun, h2, h3, h5⟩

theorem wp_append_row {o : Oper} {a : Act} {K : Act → World → Prop} {Q : Exit → Act → World → Prop} (s x : Operand) (t : TypeId)
    (ho : o.op = .call { callee := .builtin .append, args := #[s, x], argTypes := #[t, t] })
    (base : Nat) (e : TypeId) (i : TypeInfo) (z : Value) (size bytes : Nat) (ht : P.underlying t = some (.slice e)) (hi : P.info? e = some i) (hz : i.zero = some z)
    (hsize : i.size = size) (hby : i.bytes = bytes) (hzs : z.cells.size = size) (hsz : 0 < size)
    (v : Value) (n : Nat) (xs : List Value) (hs : a.eval s = v) (hown : w.ownsRow base e size v n xs)
    (A : Option Addr) (m c : Nat) (news : List Value) (hx : a.eval x = .slice A m c) (hl : news.length = m * size) (hr : Row w A news) (h1 : ∀ u ∈ news, u.oneCell' = true)
    (h63 : n + m ≤ maxLen) (hbytes : (n + m) * bytes ≤ 140737488355328) (hbase : base ≤ w.heap.size)
    (h : ∀ v' w', w'.ownsRow base e size v' (n + m) (xs ++ news) → w.grownBy w' v.ownBlock → (v'.ownBlock = v.ownBlock ∨ v'.ownBlock = some w.heap.size) → K (a.put o.dst v') w') : o.wp P a w K Q := by
  obtain ⟨v', w', hrun, h2, h3, h4⟩ := run_append_row (P := P) w base t o.type e i z size bytes ht hi hz hsize hby hzs hsz v n xs hown A m c news hl hr h1 h63 hbytes hbase
  unfold Oper.wp execOp
  simp only [ho, resolve, invoke, builtin, Sem.run_bind, Sem.run_pure, Result.andThen_ok, List.map_toArray, List.map_cons, List.map_nil, hs, hx, hrun]
  exact h v' w' h2 h3 h4

theorem wpList_append_row {ops : Array Oper} {rest : List Oper} {o : Oper} {a : Act} {Q : Exit → Act → World → Prop} (hgd : o.guard = none) (s x : Operand) (t : TypeId)
    (ho : o.op = .call { callee := .builtin .append, args := #[s, x], argTypes := #[t, t] })
    (base : Nat) (e : TypeId) (i : TypeInfo) (z : Value) (size bytes : Nat) (ht : P.underlying t = some (.slice e)) (hi : P.info? e = some i) (hz : i.zero = some z)
    (hsize : i.size = size) (hby : i.bytes = bytes) (hzs : z.cells.size = size) (hsz : 0 < size)
    (v : Value) (n : Nat) (xs : List Value) (hs : a.eval s = v) (hown : w.ownsRow base e size v n xs)
    (A : Option Addr) (m c : Nat) (news : List Value) (hx : a.eval x = .slice A m c) (hl : news.length = m * size) (hr : Row w A news) (h1 : ∀ u ∈ news, u.oneCell' = true)
    (h63 : n + m ≤ maxLen) (hbytes : (n + m) * bytes ≤ 140737488355328) (hbase : base ≤ w.heap.size)
    (h : ∀ v' w', w'.ownsRow base e size v' (n + m) (xs ++ news) → w.grownBy w' v.ownBlock → (v'.ownBlock = v.ownBlock ∨ v'.ownBlock = some w.heap.size) → wpList P ops Q rest (a.put o.dst v') w') : wpList P ops Q (o :: rest) a w :=
  wpList_plain hgd fun _ hK => wp_append_row w s x t ho base e i z size bytes ht hi hz hsize hby hzs hsz v n xs hs hown A m c news hx hl hr h1 h63 hbytes hbase fun v' w' h2 h3 h4 => hK _ _ (h v' w' h2 h3 h4)
end

/-! ### Slices of identities -/
theorem flat_length (ls : List (List UInt8)) (h : ∀ l ∈ ls, l.length = 32) : (ls.flatMap idc).length = ls.length * 32 := by
  induction ls with
  | nil => rfl
  | cons a t ih => rw [List.flatMap_cons, List.length_append, ih (fun l hl => h l (List.mem_cons_of_mem _ hl)), idc_length, h a (List.mem_cons_self ..), List.length_cons]; omega
theorem flat_one (ls : List (List UInt8)) : ∀ u ∈ ls.flatMap idc, u.oneCell' = true := by
  intro u hu
  obtain ⟨l, _, h⟩ := List.mem_flatMap.1 hu
  exact idc_one l u h
theorem flat_drop : ∀ (ls : List (List UInt8)) (k : Nat), (∀ l ∈ ls, l.length = 32) → (ls.flatMap idc).drop (k * 32) = (ls.drop k).flatMap idc
  | [], k, _ => by simp
  | l :: ls, 0, _ => by simp
  | l :: ls, k + 1, h => by
    rw [List.flatMap_cons, List.drop_succ_cons, ← flat_drop ls k (fun x hx => h x (List.mem_cons_of_mem _ hx))]
    have : (k + 1) * 32 = (idc l).length + k * 32 := by rw [idc_length, h l (List.mem_cons_self ..)]; omega
    rw [this, List.drop_append]
    simp
/-- the slice at A holds the identities -/
structure Ids (w : World) (A : Option Addr) (ls : List (List UInt8)) : Prop where
  row : Row w A (ls.flatMap idc)
  len : ∀ l ∈ ls, l.length = 32
section
variable {w w' : World} {A : Option Addr} {ls : List (List UInt8)}
theorem Ids.nil (w : World) (A : Option Addr) : Ids w A [] := ⟨.inl rfl, fun _ h => by cases h⟩
theorem Ids.below (h : Ids w A ls) (hb : Below w.heap.size w w') : Ids w' A ls := ⟨h.row.below hb, h.len⟩
theorem Ids.drewN (h : Ids w A ls) (n : Nat) : Ids (w.drewN n) A ls := ⟨h.row.drewN n, h.len⟩
theorem Ids.drew (h : Ids w A ls) : Ids w.drew A ls := ⟨h.row.drew, h.len⟩
theorem Ids.alloc (h : Ids w A ls) (o : Obj) : Ids (w.alloc o) A ls := ⟨h.row.alloc o, h.len⟩
theorem Ids.at_ (h : Ids w A ls) {k : Nat} (hk : k < ls.length) : ∃ ad x, A = some ad ∧ ls[k]? = some x ∧ x.length = 32 ∧ IdAt w (ad.add (k * 32)) x := by
  obtain ⟨hr, hlen⟩ := h
  have h32 := hlen ls[k] (List.getElem_mem hk)
  have hne : ls.flatMap idc ≠ [] := by
    intro e
    have := flat_length ls hlen
    rw [e] at this
    simp at this
    omega
  rcases hr with h | ⟨ad, rfl, h⟩
  · exact absurd h hne
  · refine ⟨ad, ls[k], rfl, List.getElem?_eq_getElem hk, h32, h32, fun j u hu => ?_⟩
    rw [Addr.add_add']
    refine h _ u ?_
    rw [← List.getElem?_drop, flat_drop ls k hlen, List.drop_eq_getElem_cons hk, List.flatMap_cons]
    rw [List.getElem?_append_left (by
      have := (List.getElem?_eq_some_iff.1 hu).1
      exact this)]
    exact hu
theorem Ids.cut (h : Ids w A ls) (k : Nat) (c : Prop) [Decidable c] (hc : c → ls.length ≤ k) : Ids w (if c then A else A.map (·.add (k * 32))) (ls.drop k) := by
  refine ⟨?_, fun l hl => h.len l (List.mem_of_mem_drop hl)⟩
  rw [← flat_drop ls k h.len]
  exact h.row.cut c (fun hcc => by rw [flat_length ls h.len]; have := hc hcc; omega)
theorem Ids.drop_ (h : Ids w A ls) (k : Nat) : Ids w (A.map (·.add (k * 32))) (ls.drop k) := by simpa using h.cut k False (fun h => h.elim)
theorem Ids.of_own {base : Nat} {e : TypeId} {n : Nat} {v : Value} (h : w.ownsRow base e 32 v n (ls.flatMap idc)) (hl : ∀ l ∈ ls, l.length = 32) :
    ∃ A c, v = .slice A n c ∧ n = ls.length ∧ n ≤ c ∧ c ≤ maxLen ∧ Ids w A ls ∧ ∀ ad, A = some ad → base ≤ ad.block := by
  obtain ⟨A, c, h1, h2, h3, h4, h5⟩ := Row.of_own h
  have := h.1
  rw [flat_length ls hl] at this
  exact ⟨A, c, h1, by omega, h2, h3, ⟨h4, hl⟩, h5⟩
end
theorem take_succ_at {α : Type} {l : List α} {k : Nat} {x : α} (h : l[k]? = some x) : l.take (k + 1) = l.take k ++ [x] := by
  rw [List.take_add_one, h]; rfl
/-- a new block's cells -/
theorem cells_new (w : World) (cs : List Value) (e : TypeId) : ∀ j u, cs[j]? = some u → (w.alloc (.cells cs.toArray e)).cell? ((⟨w.heap.size, 0, none⟩ : Addr).add j) = some u := by
  intro j u hu
  rw [Addr.add_mid, cell_of_row _ _ _ _ _ _ (heap_alloc_new w _)]
  simpa using hu

/-! ### A slice literal of identities -/
theorem foldl_set (c : Array Value) (off : Nat) (cs : Array Value) (h : off + c.size ≤ cs.size) :
    (c.zipIdx.foldl (fun cs (x : Value × Nat) => cs.setIfInBounds (off + x.2) x.1) cs).toList = cs.toList.take off ++ c.toList ++ cs.toList.drop (off + c.size) := by
  obtain ⟨l⟩ := c
  obtain ⟨d⟩ := cs
  simp only [List.size_toArray] at h
  have key : ∀ (l d : List Value) (k off : Nat), off + k + l.length ≤ d.length →
      ((l.zipIdx k).foldl (fun (cs : Array Value) (x : Value × Nat) => cs.setIfInBounds (off + x.2) x.1) d.toArray).toList = d.take (off + k) ++ l ++ d.drop (off + k + l.length) := by
    intro l
    induction l with
    | nil => intro d k off _; simp
    | cons a t ih =>
      intro d k off hd
      rw [List.zipIdx_cons, List.foldl_cons, List.setIfInBounds_toArray]
      rw [ih (d.set (off + k) a) (k + 1) off (by simp at hd ⊢; omega)]
      simp only [List.length_cons] at hd ⊢
      have e1 : (d.set (off + k) a).take (off + (k + 1)) = d.take (off + k) ++ [a] := by
        rw [← Nat.add_assoc, List.take_add_one, List.take_set_of_le (Nat.le_refl _), List.getElem?_set_self (by omega)]
        rfl
      have e2 : (d.set (off + k) a).drop (off + (k + 1) + t.length) = d.drop (off + k + (t.length + 1)) := by
        rw [List.drop_set_of_lt (by omega)]
        congr 1
        omega
      rw [e1, e2]
      simp
  have := key l d 0 off (by simpa using h)
  simpa using this

theorem fill_ids (n : Nat) : ∀ (ls : List (List UInt8)) (k : Nat) (cs : Array Value), (∀ l ∈ ls, l.length = 32) → cs.size = n * 32 → k + ls.length ≤ n →
    ∃ cs', Instr.fill (fun i => some (i * 32, 32)) cs ((ls.zipIdx k).map fun x => (x.2, idv x.1)) = some cs' ∧ cs'.toList = cs.toList.take (k * 32) ++ ls.flatMap idc ++ cs.toList.drop ((k + ls.length) * 32)
  | [], k, cs, _, _, _ => ⟨cs, rfl, by simp⟩
  | l :: ls, k, cs, hl, hs, hk => by
    have h32 : l.length = 32 := hl l (List.mem_cons_self ..)
    have hc : (idv l).cells.size = 32 := by simp [idv, Value.cells, idc_length, h32]
    simp only [List.length_cons] at hk
    have hfit : k * 32 + (idv l).cells.size ≤ cs.size := by rw [hc, hs]; omega
    have hset := foldl_set (idv l).cells (k * 32) cs hfit
    rw [hc] at hset
    have hz : ((idv l).cells.zipIdx.foldl (fun cs (x : Value × Nat) => cs.setIfInBounds (k * 32 + x.2) x.1) cs).size = n * 32 := by
      rw [← Array.length_toList, hset]
      simp [idv, Value.cells, idc_length, h32, hs]
      omega
    obtain ⟨cs', h1, h2⟩ := fill_ids n ls (k + 1) _ (fun x hx => hl x (List.mem_cons_of_mem _ hx)) hz (by omega)
    refine ⟨cs', ?_, ?_⟩
    · rw [List.zipIdx_cons, List.map_cons, Instr.fill]
      simp only
      rw [if_neg (by simp [hc, hs]; omega)]
      exact h1
    · rw [h2, hset]
      have e : (idv l).cells.toList = idc l := by simp [idv, Value.cells]
      rw [e]
      have l1 : (cs.toList.take (k * 32)).length = k * 32 := by rw [List.length_take, Array.length_toList, hs]; omega
      have l2 : (cs.toList.take (k * 32) ++ idc l).length = (k + 1) * 32 := by rw [List.length_append, l1, idc_length, h32]; omega
      rw [List.take_append_of_le_length (by rw [l2]; exact Nat.le_refl _), List.take_of_length_le (by rw [l2]; exact Nat.le_refl _), List.flatMap_cons]
      rw [List.drop_append, l2, List.drop_drop]
      rw [List.drop_eq_nil_of_le (by rw [l2]; omega)]
      simp only [List.nil_append, List.append_assoc, List.length_cons]
      congr 3
      congr 1
      omega

theorem run_buildSlice_ids {P : Program} (w : World) {t e : TypeId} {i : TypeInfo} {z : Value} (ht : P.underlying t = some (.slice e)) (hi : P.info? e = some i) (hz : i.zero = some z) (hs : i.size = 32)
    (ls : List (List UInt8)) (hl : ∀ l ∈ ls, l.length = 32) (h1 : ls.length ≤ 1000) (h0 : 0 < ls.length) (parts : Array (Nat × Value)) (hp : parts = ((ls.zipIdx).map fun x => (x.2, idv x.1)).toArray) :
    (Instr.buildSlice t ls.length parts).run P w = .ok (.slice (some ⟨w.heap.size, 0, none⟩) ls.length ls.length) (w.alloc (.cells (ls.flatMap idc).toArray e)) := by
  subst hp
  obtain ⟨cs', hf, hc⟩ := fill_ids ls.length ls 0 ((Array.range (ls.length * 32)).map (z.cells[· % z.cells.size]!)) hl (by simp) (by simp)
  have hcs : cs' = (ls.flatMap idc).toArray := by
    apply Array.toList_inj.1
    rw [hc]
    simp
  subst hcs
  have hle : ¬ (ls.length * 32 > 2 ^ 24) := by omega
  have hne : ¬ (ls.length * 32 = 0) := by omega
  simp only [Instr.buildSlice, Sem.run_bind, run_underlying ht, Result.andThen_ok, sizeOf, typeInfo, Sem.run_pure]
  simp [zeroValue, typeInfo, hi, hz, newRow]
  rw [hs, if_neg (by omega), if_neg (by omega), hf]
  simp
theorem wp_build_ids {P : Program} {o : Oper} {a : Act} {w : World} {K : Act → World → Prop} {Q : Exit → Act → World → Prop} (t : TypeId) (n : Nat) (ps : Array (Nat × Operand)) (ho : o.op = .buildSlice t n ps)
    {e : TypeId} {i : TypeInfo} {z : Value} (ht : P.underlying t = some (.slice e)) (hi : P.info? e = some i) (hz : i.zero = some z) (hs : i.size = 32)
    (ls : List (List UInt8)) (hn : ls.length = n) (hl : ∀ l ∈ ls, l.length = 32) (h1 : ls.length ≤ 1000) (h0 : 0 < ls.length) (hp : (ps.toList.map fun x => (x.1, a.eval x.2)) = (ls.zipIdx).map fun x => (x.2, idv x.1))
    (h : K (a.put o.dst (.slice (some ⟨w.heap.size, 0, none⟩) n n)) (w.alloc (.cells (ls.flatMap idc).toArray e))) : o.wp P a w K Q := by
  subst hn
  unfold Oper.wp execOp
  have := run_buildSlice_ids w ht hi hz hs ls hl h1 h0 (ps.map fun x => (x.1, a.eval x.2)) (by rw [← hp, ← Array.toList_map])
  simp only [ho, Sem.run_bind, Sem.run_pure, Result.andThen_ok, this]
  exact h
theorem wpList_build_ids {P : Program} {ops : Array Oper} {rest : List Oper} {o : Oper} {a : Act} {w : World} {Q : Exit → Act → World → Prop} (hgd : o.guard = none) (t : TypeId) (n : Nat) (ps : Array (Nat × Operand)) (ho : o.op = .buildSlice t n ps)
    {e : TypeId} {i : TypeInfo} {z : Value} (ht : P.underlying t = some (.slice e)) (hi : P.info? e = some i) (hz : i.zero = some z) (hs : i.size = 32)
    (ls : List (List UInt8)) (hn : ls.length = n) (hl : ∀ l ∈ ls, l.length = 32) (h1 : ls.length ≤ 1000) (h0 : 0 < ls.length) (hp : (ps.toList.map fun x => (x.1, a.eval x.2)) = (ls.zipIdx).map fun x => (x.2, idv x.1))
    (h : wpList P ops Q rest (a.put o.dst (.slice (some ⟨w.heap.size, 0, none⟩) n n)) (w.alloc (.cells (ls.flatMap idc).toArray e))) : wpList P ops Q (o :: rest) a w :=
  wpList_plain hgd fun _ hK => wp_build_ids t n ps ho ht hi hz hs ls hn hl h1 h0 hp (hK _ _ h)


/-! ### Boxes: blocks that are known whole -/
def Blk (w : World) (g : Nat) (t : TypeId) (cs : Array Value) : Prop := w.heap[g]? = some (.cells cs t (0, 0))
section
variable {w w' : World} {g : Nat} {t : TypeId} {cs : Array Value}
theorem Blk.lt (h : Blk w g t cs) : g < w.heap.size := by
  rcases Nat.lt_or_ge g w.heap.size with hlt | hge
  · exact hlt
  · unfold Blk at h; rw [Array.getElem?_eq_none hge] at h; cases h
theorem Blk.cell (h : Blk w g t cs) (i : Nat) : w.cell? ⟨g, i, none⟩ = cs[i]? := cell_of_row w g i cs t (0, 0) h
theorem Blk.frozen (h : Blk w g t cs) (i : Nat) : w.frozen? ⟨g, i, none⟩ = false := by
  unfold Blk at h
  simp [World.frozen?, h]
theorem Blk.new (w : World) (t : TypeId) (cs : Array Value) : Blk (w.alloc (.cells cs t)) w.heap.size t cs := heap_alloc_new w _
theorem Blk.drew (h : Blk w g t cs) : Blk w.drew g t cs := h
theorem Blk.drewN (h : Blk w g t cs) (n : Nat) : Blk (w.drewN n) g t cs := h
theorem Blk.alloc (h : Blk w g t cs) (o : Obj) : Blk (w.alloc o) g t cs := (Below.heap_alloc w o g h.lt).trans h
theorem Blk.set_ (h : Blk w g t cs) (i : Nat) (u : Value) : Blk (w.setCell ⟨g, i, none⟩ u) g t (cs.setIfInBounds i u) := by
  unfold Blk at h ⊢
  simp [World.setCell, Array.getElem?_modify, h]
theorem Blk.far (h : Blk w g t cs) {p : Addr} (hp : g ≠ p.block) (u : Value) : Blk (w.setCell p u) g t cs := (Below.heap_setCell w p u g hp).trans h
theorem Blk.below {B : Nat} (h : Blk w g t cs) (hb : Below B w w') (hg : g < B) : Blk w' g t cs := (hb.block g hg).trans h
theorem Blk.grown {row : Option Nat} (h : Blk w g t cs) (hb : w.grownBy w' row) (hg : some g ≠ row) : Blk w' g t cs := (hb.block g h.lt hg).trans h
theorem Blk.setCells : ∀ (vs : List Value) (o : Nat) {w : World} {cs : Array Value}, Blk w g t cs → o + vs.length ≤ cs.size →
    ∃ cs', Blk (w.setCells g o vs) g t cs' ∧ cs'.toList = cs.toList.take o ++ vs ++ cs.toList.drop (o + vs.length)
  | [], o, w, cs, h, _ => ⟨cs, h, by simp⟩
  | v :: vs, o, w, cs, h, ho => by
    simp only [List.length_cons] at ho
    obtain ⟨cs', h1, h2⟩ := Blk.setCells vs (o + 1) (h.set_ o v) (by simp; omega)
    refine ⟨cs', h1, ?_⟩
    rw [h2, Array.toList_setIfInBounds]
    have e1 : (cs.toList.set o v).take (o + 1) = cs.toList.take o ++ [v] := by
      rw [List.take_add_one, List.take_set_of_le (Nat.le_refl _), List.getElem?_set_self (by simp; omega)]
      rfl
    have e2 : (cs.toList.set o v).drop (o + 1 + vs.length) = cs.toList.drop (o + (vs.length + 1)) := by
      rw [List.drop_set_of_lt (by omega)]
      congr 1
      omega
    rw [e1, e2]
    simp
theorem grownBy_setCells (g : Nat) : ∀ (vs : List Value) (o : Nat) (w : World), w.grownBy (w.setCells g o vs) (some g) ∧ (w.setCells g o vs).heap.size = w.heap.size
  | [], _, w => ⟨World.grownBy.refl w _, rfl⟩
  | v :: vs, o, w => by
    obtain ⟨h1, h2⟩ := grownBy_setCells g vs (o + 1) (w.setCell ⟨g, o, none⟩ v)
    have hs : (w.setCell ⟨g, o, none⟩ v).heap.size = w.heap.size := by simp [World.setCell]
    refine ⟨⟨h1.os, h1.tape, h1.output, by rw [← hs]; exact h1.size, fun k hk hne => ?_⟩, h2.trans hs⟩
    exact (h1.block k (by rw [hs]; exact hk) hne).trans (Below.heap_setCell _ _ _ _ (fun e => hne (by rw [e])))
theorem Blk.id_at {l : List UInt8} (h : Blk w g t (idc l).toArray) (hl : l.length = 32) : IdAt w ⟨g, 0, none⟩ l :=
  ⟨hl, fun j u hu => by rw [Addr.add_mid, h.cell]; simpa using hu⟩
end
section
variable {P : Program}
/-- a whole box is written -/
theorem wp_store_box {op : Oper} {a : Act} {w : World} {K : Act → World → Prop} {Q : Exit → Act → World → Prop} (ty : TypeId) (x y : Operand) (ho : op.op = .store ty x y)
    (b : Nat) (cells : List Value) (hx : a.eval x = .pointer (some ⟨b, 0, none⟩)) (hy : a.eval y = .agg cells.toArray) {t : TypeId} {cs : Array Value}
    (hb : Blk w b t cs) (hcs : cs.size = cells.length) (hi : (P.info? ty).map (·.size) = some cells.length) (h1 : ∀ u ∈ cells, u.oneCell' = true)
    (h : ∀ w', Blk w' b t cells.toArray → w.grownBy w' (some b) → w'.heap.size = w.heap.size → K (a.put op.dst undef) w') : op.wp P a w K Q := by
  refine wp_store_mid ty x y ho b 0 cells.toArray hx hy (fun j hj => ?_) (by simpa using hi) (all_oneCell_toArray h1) ?_
  · rw [hb.cell, hb.frozen, Nat.zero_add]
    exact ⟨by rw [Array.getElem?_eq_getElem (by simp at hj; omega)]; rfl, rfl⟩
  · obtain ⟨cs', h2, h3⟩ := hb.setCells cells 0 (by omega)
    have e : cs' = cells.toArray := by
      apply Array.toList_inj.1
      rw [h3]
      simp [← hcs]
    subst e
    exact h _ h2 (grownBy_setCells b cells 0 w).1 (grownBy_setCells b cells 0 w).2
theorem wpList_store_box {ops : Array Oper} {rest : List Oper} {op : Oper} {a : Act} {w : World} {Q : Exit → Act → World → Prop} (hgd : op.guard = none) (ty : TypeId) (x y : Operand) (ho : op.op = .store ty x y)
    (b : Nat) (cells : List Value) (hx : a.eval x = .pointer (some ⟨b, 0, none⟩)) (hy : a.eval y = .agg cells.toArray) {t : TypeId} {cs : Array Value}
    (hb : Blk w b t cs) (hcs : cs.size = cells.length) (hi : (P.info? ty).map (·.size) = some cells.length) (h1 : ∀ u ∈ cells, u.oneCell' = true)
    (h : ∀ w', Blk w' b t cells.toArray → w.grownBy w' (some b) → w'.heap.size = w.heap.size → wpList P ops Q rest (a.put op.dst undef) w') : wpList P ops Q (op :: rest) a w :=
  wpList_plain hgd fun _ hK => wp_store_box ty x y ho b cells hx hy hb hcs hi h1 fun w' h2 h3 h4 => hK _ _ (h w' h2 h3 h4)
/-- a function with a body -/
def callable (P : Program) (f : FuncId) : Bool :=
  match P.funcs[f]? with
  | some fn => !(fn.name == "runtime.NumGoroutine") && fn.body.isSome
  | none => false
/-- a call of a function with a body -/
theorem wp_call {o : Oper} {a : Act} {w : World} {K : Act → World → Prop} {Q : Exit → Act → World → Prop} (f : FuncId) (xs : Array Operand) (ts : Array TypeId) (args : List Value)
    (ho : o.op = .call { callee := .value (.func f), args := xs, argTypes := ts }) (hx : xs.toList.map a.eval = args) (hf : callable P f = true)
    (h : Calls P f args.toArray w fun e w' => ∃ v, e = .returned v ∧ K (a.put o.dst v) w') : o.wp P a w K Q := by
  unfold callable at hf
  cases hfn : P.funcs[f]? with
  | none => simp [hfn] at hf
  | some fn =>
    simp only [hfn, Bool.and_eq_true, Bool.not_eq_true'] at hf
    obtain ⟨h1, h2⟩ := hf
    have hrun : (callFunc f args.toArray).run P w = .ok (.enter f args.toArray) w := by
      have h3 : fn.body.isNone = false := by cases hb : fn.body <;> simp_all
      simp only [callFunc, Sem.run_bind, run_program, Result.andThen_ok, hfn, h1, h3, Bool.false_eq_true, if_false, Sem.run_pure]
    have hargs : xs.map a.eval = args.toArray := by rw [← hx, ← Array.toList_map]
    have hfe : a.eval (.func f) = .func (.func f) #[] #[] := rfl
    unfold Oper.wp execOp
    simp only [ho, resolve, hargs, hfe, Deferred.ofValue, invoke, Sem.run_bind, Sem.run_pure, Result.andThen_ok, Array.append_empty, Array.empty_append, hrun]
    exact h.mono fun e w' ⟨v, he, hk⟩ => by subst he; exact hk
/-- an empty slice literal -/
theorem wp_build_empty {o : Oper} {a : Act} {w : World} {K : Act → World → Prop} {Q : Exit → Act → World → Prop} (t e : TypeId) (_ho : o.op = .buildSlice t 0 #[])
    (hv : (execOp a.eval o).run P w = .ok (.value (.slice (some ⟨w.heap.size, 0, none⟩) 0 0)) (w.alloc (.cells #[] e)))
    (h : K (a.put o.dst (.slice (some ⟨w.heap.size, 0, none⟩) 0 0)) (w.alloc (.cells #[] e))) : o.wp P a w K Q := by
  unfold Oper.wp; rw [hv]; exact h
/-- which operation stands here: a guard for the laws that the kernel alone checks -/
def isNewVar : Op → Bool
  | .alloc _ | .box .. => true
  | _ => false
def isLit : Op → Bool
  | .build .. => true
  | _ => false
def isNewMap : Op → Bool
  | .makeMap .. => true
  | _ => false
/-- an operation whose value the kernel reckons -/
theorem wpList_value {ops : Array Oper} {rest : List Oper} {o : Oper} {a : Act} {w : World} {Q : Exit → Act → World → Prop} (hgd : o.guard = none) (_hk : isLit o.op = true) (v : Value) (hv : (execOp a.eval o).run P w = .ok (.value v) w)
    (h : wpList P ops Q rest (a.put o.dst v) w) : wpList P ops Q (o :: rest) a w :=
  wpList_plain hgd fun _ hK => by unfold Oper.wp; rw [hv]; exact hK _ _ h
/-- a new variable -/
theorem wpList_alloc {ops : Array Oper} {rest : List Oper} {o : Oper} {a : Act} {w : World} {Q : Exit → Act → World → Prop} (hgd : o.guard = none) (_hk : isNewVar o.op = true) (t : TypeId) (cs : Array Value)
    (hv : (execOp a.eval o).run P w = .ok (.value (.pointer (some ⟨w.heap.size, 0, none⟩))) (w.alloc (.cells cs t)))
    (h : ∀ w', Blk w' w.heap.size t cs → w.grownBy w' none → w.heap.size < w'.heap.size → wpList P ops Q rest (a.put o.dst (.pointer (some ⟨w.heap.size, 0, none⟩))) w') : wpList P ops Q (o :: rest) a w :=
  wpList_plain hgd fun _ hK => by
    unfold Oper.wp; rw [hv]
    exact hK _ _ (h _ (Blk.new w t cs) (World.grownBy_alloc w _ _) (by simp))
end
end Go.Proofs.Ytafpndmoognjlaa
