/- Nearest, walked. -/
import Derived.Test.YtafpndmoognjlaaNr1
import Derived.Sort.CutIn
namespace Go.Proofs.Ytafpndmoognjlaa
open Go Go.ChangeShapes Go.WideShapes Go.ChangeAt Go.RowKit Go.Shelf
attribute [local go_sem] Oper.semAt_some
theorem yieldsIf_load_one {P : Program} {ops : Array Oper} {S : World → Prop} {o : Oper} {a : Act} (hw : Region.wanted o (yielded ops a.tmps) = true) (t : TypeId) (x : Operand) (ho : o.op = .load t x)
    (ad : Addr) (hx : a.eval x = .pointer (some ad)) (v : Value) (hagg : ∀ w, (isAgg t).run P w = .ok false w) (hS : ∀ w, S w → w.cell? ad = some v) : YieldsIf P ops S o v a :=
  .inl ⟨hw, fun w h => by
    unfold execOp
    have hl : (load ad).run P w = .ok v w := by simp [hS w h]
    simp only [ho, hx, Instr.loadAt, Instr.sureAddr, Sem.run_bind, Sem.run_pure, Result.andThen_ok, loadVar, hagg, Bool.false_eq_true, if_false, hl]⟩
abbrev hasF : Value := (.func (.func 17) #[] #[])
/-- between two rounds: the function's own boxes (b: the first of the results' later ones) -/
def NrI (ls : List (List UInt8)) (w : World) (S b : Nat) (A : Option Addr) (n c : Nat) (pre : List Nat) (W : World) : Prop :=
  (∀ i ∈ pre, accB (idAt ls i) = false) ∧ S ≤ W.heap.size ∧ Boxed W w.heap.size 24 (.slice A n c) ∧ Boxed W (w.heap.size + 1) 37 hasF ∧ Blk W (w.heap.size + 1 + 1) 33 (idc zid).toArray ∧ Boxed W b 3 (.int .i64 0) ∧ Boxed W (b + 1) 4 (.bool false) ∧ Below w.heap.size w W
/-- a round has left by 'return' -/
def NrX (ls : List (List UInt8)) (w : World) (b : Nat) (n : Nat) (k : Code) (pre : List Nat) (W : World) : Prop :=
  k = .ret ∧ (∃ ini x, pre = ini ++ [x] ∧ (∀ i ∈ ini, accB (idAt ls i) = false) ∧ accB (idAt ls x) = true ∧ Blk W (w.heap.size + 1 + 1) 33 (idc (idAt ls x)).toArray ∧ Boxed W b 3 (.int .i64 (IntKind.i64.wrap ((n : Int) - 1 - x))) ∧ Boxed W (b + 1) 4 (.bool true)) ∧ Below w.heap.size w W
/-- a round's own frame: the loop's variables, the identity boxed -/
def NrA (ls : List (List UInt8)) (S : Nat) (A : Option Addr) (n c p b : Nat) (x : Nat) (a' : Act) (W : World) : Prop :=
  ∃ Bx, S ≤ Bx ∧ Blk W Bx 33 (idc (idAt ls x)).toArray ∧ a' = { tmps := #[.slice A n c, hasF, .pointer (some ⟨p, 0, none⟩), .pointer (some ⟨p + 1, 0, none⟩), .pointer (some ⟨p + 1 + 1, 0, none⟩), .pointer (some ⟨b, 0, none⟩), .pointer (some ⟨b + 1, 0, none⟩), .int .i64 (x : Int), .pointer (some ⟨Bx, 0, none⟩), hasF, .bool false, undef, undef, undef, .slice A n c, .func (.func 31) #[] #[.pointer (some ⟨b + 1 + 1, 0, none⟩)], .int .i64 (x : Int), idv (idAt ls x), undef, undef, undef, undef, undef, undef, undef, undef, undef, undef, undef, undef], defers := [] }
theorem NrI.below {ls w S b A n c pre} {W W' : World} (h : NrI ls w S b A n c pre W) (hb : Below W.heap.size W W') : NrI ls w S b A n c pre W' := by
  obtain ⟨h1, hS, h2, h3, h4, h5, h6, h7⟩ := h
  exact ⟨h1, Nat.le_trans hS hb.size, Blk.below (cs := #[_]) h2 hb h2.lt, Blk.below (cs := #[_]) h3 hb h3.lt, h4.below hb h4.lt, Blk.below (cs := #[_]) h5 hb h5.lt, Blk.below (cs := #[_]) h6 hb h6.lt, h7.trans (hb.mono h7.size)⟩
theorem norm_intro {Q : Exit → Act → World → Prop} {a : Act} {w : World} (h : Q .normal a w) : Norm Q .normal a w := h
theorem norm_mono {Q : Exit → Act → World → Prop} : ∀ e a w, Norm Q e a w → Q e a w := fun e _ _ h => by cases e <;> first | exact h | exact h.elim
theorem frame_two (t : Array Value) (i j : Tmp) (u v : Value) : ((#[i, j] : Array Tmp).zip #[u, v]).foldl (fun t (p : Tmp × Value) => t.setIfInBounds p.1 p.2) t = (t.setIfInBounds i u).setIfInBounds j v := by simp
theorem keepsFrom_below {B : Nat} {W W' : World} (h : Below W.heap.size W W') : KeepsFrom B W W' := ⟨h.size, fun k _ _ hk _ => (h.block k (Array.getElem?_eq_some_iff.1 hk).1).trans hk⟩
theorem kpA_below {n₀ Bs : Nat} {W W' : World} (hn : n₀ ≤ W.heap.size) (h : Below W.heap.size W W') : KpA n₀ Bs W W' := ⟨h.mono hn, fun _ hv => (h.cell (isSome_lt (by rw [hv]; rfl))).trans hv⟩
/-- what the stores into the three results' boxes leave alone -/
structure NrS (W : World) (b2 b3 b4 : Nat) (W' : World) : Prop where
  k2 : ∃ cs, Blk W' b2 33 cs ∧ cs.size = 32
  k3 : ∃ v, Boxed W' b3 3 v
  k4 : ∃ v, Boxed W' b4 4 v
  os : W'.os = W.os
  tape : W'.tape = W.tape
  output : W'.output = W.output
  size : W'.heap.size = W.heap.size
  rest : ∀ k, k ≠ b2 → k ≠ b3 → k ≠ b4 → W'.heap[k]? = W.heap[k]?
section
variable {W W' : World} {b2 b3 b4 : Nat}
theorem NrS.drew (h : NrS W b2 b3 b4 W') : NrS W b2 b3 b4 W'.drew := ⟨h.k2, h.k3, h.k4, h.os, h.tape, h.output, h.size, h.rest⟩
theorem NrS.store2 {w2 : World} {cs : Array Value} (h : NrS W b2 b3 b4 W') (h23 : b3 ≠ b2) (h24 : b4 ≠ b2) (hb : Blk w2 b2 33 cs) (hc : cs.size = 32) (hg : W'.grownBy w2 (some b2)) (hs : w2.heap.size = W'.heap.size) : NrS W b2 b3 b4 w2 := by
  obtain ⟨v, hv⟩ := h.k3
  obtain ⟨u, hu⟩ := h.k4
  refine ⟨⟨cs, hb, hc⟩, ⟨v, hv.kept hg (fun e => h23 (by injection e))⟩, ⟨u, hu.kept hg (fun e => h24 (by injection e))⟩, hg.os.trans h.os, hg.tape.trans h.tape, hg.output.trans h.output, hs.trans h.size, fun k h1 h2 h3 => ?_⟩
  rw [← h.rest k h1 h2 h3]
  by_cases hk : k < W'.heap.size
  · exact hg.block k hk (fun e => h1 (by injection e))
  · rw [Array.getElem?_eq_none (by omega), Array.getElem?_eq_none (by omega)]
theorem NrS.set3 (v : Value) (h : NrS W b2 b3 b4 W') (h23 : b3 ≠ b2) (h34 : b4 ≠ b3) : NrS W b2 b3 b4 (W'.setCell ⟨b3, 0, none⟩ v) := by
  obtain ⟨cs, hc, hn⟩ := h.k2
  obtain ⟨u, hu⟩ := h.k3
  obtain ⟨u', hu'⟩ := h.k4
  refine ⟨⟨cs, hc.far (fun e => h23 e.symm) v, hn⟩, ⟨v, hu.set v⟩, ⟨u', hu'.other h34 v⟩, h.os, h.tape, h.output, by simp [World.setCell, h.size], fun k h1 h2 h3 => ?_⟩
  rw [← h.rest k h1 h2 h3]
  exact Below.heap_setCell W' ⟨b3, 0, none⟩ v k h2
theorem NrS.set4 (v : Value) (h : NrS W b2 b3 b4 W') (h24 : b4 ≠ b2) (h34 : b4 ≠ b3) : NrS W b2 b3 b4 (W'.setCell ⟨b4, 0, none⟩ v) := by
  obtain ⟨cs, hc, hn⟩ := h.k2
  obtain ⟨u, hu⟩ := h.k3
  obtain ⟨u', hu'⟩ := h.k4
  refine ⟨⟨cs, hc.far (fun e => h24 e.symm) v, hn⟩, ⟨u, hu.other (fun e => h34 e.symm) v⟩, ⟨v, hu'.set v⟩, h.os, h.tape, h.output, by simp [World.setCell, h.size], fun k h1 h2 h3 => ?_⟩
  rw [← h.rest k h1 h2 h3]
  exact Below.heap_setCell W' ⟨b4, 0, none⟩ v k h3
end
def nearF (ls : List (List UInt8)) (n : Nat) : Option Nat := (down n n).find? fun i => accB (idAt ls i)
def nearV (ls : List (List UInt8)) (n : Nat) : Value := match nearF ls n with
  | some i => .tuple #[idv (idAt ls i), .int .i64 ((n : Int) - 1 - i), .bool true]
  | none => .tuple #[idv zid, .int .i64 n, .bool false]
theorem results_id3 {fn : Func} {p q r : Tmp} (h : fn.results = #[.cell p 33, .cell q 3, .cell r 4]) (tmps : Array Value) (w : World) (a b c : Addr) (x : List UInt8) (z : Int) (y : Bool)
    (hp : tmps.getD p undef = .pointer (some a)) (hq : tmps.getD q undef = .pointer (some b)) (hr : tmps.getD r undef = .pointer (some c)) (hx : IdAt w a x) (hz : w.cell? b = some (.int .i64 z)) (hy : w.cell? c = some (.bool y)) :
    (results fn tmps).run Try.prog w = .ok (.tuple #[idv x, .int .i64 z, .bool y]) w := by
  have hl := run_load_id (P := Try.prog) w hx (t := 33) (by kernel_rfl)
  simp only [Instr.loadAt, Instr.sureAddr, Sem.run_bind, Sem.run_pure, Result.andThen_ok] at hl
  have hp' : tmps[p]?.getD undef = .pointer (some a) := by simpa using hp
  have hq' : tmps[q]?.getD undef = .pointer (some b) := by simpa using hq
  have hr' : tmps[r]?.getD undef = .pointer (some c) := by simpa using hr
  have hl3 : (loadVar 3 b).run Try.prog w = .ok (.int .i64 z) w := by simp [loadVar, Sem.run_bind, Try.isAgg3, go_sem, hz]
  have hl4 : (loadVar 4 c).run Try.prog w = .ok (.bool y) w := by simp [loadVar, Sem.run_bind, Try.isAgg4, go_sem, hy]
  simp [results, h, hp', hq', hr', asAddr, hl, hl3, hl4]
theorem run_equalIn_func (w : World) (d : Nat) (f : Fn) (a b : Array Value) : (Op.equalIn (d + 1) 37 (.func f a b) .nilFunc).run Try.prog w = .ok false w := by
  rw [Op.equalIn]
  simp [run_underlying Try.underlying37]
theorem run_equalIn_nofunc (w : World) (d : Nat) : (Op.equalIn (d + 1) 37 .nilFunc .nilFunc).run Try.prog w = .ok true w := by
  rw [Op.equalIn]
  simp [run_underlying Try.underlying37]
theorem eql_has (w : World) : (binOp .eql 37 (.func (.func 17) #[] #[]) .nilFunc).run Try.prog w = .ok (.bool false) w := by
  simp only [binOp]
  simp [Op.equal, Op.maxDepth, run_equalIn_func w 9999]
theorem eql_nohas (w : World) : (binOp .eql 37 .nilFunc .nilFunc).run Try.prog w = .ok (.bool true) w := by
  simp only [binOp]
  simp [Op.equal, Op.maxDepth, run_equalIn_nofunc w 9999]
theorem cell_two {w : World} {p : Addr} {v : Value} (h : w.cell? p = some v) : ∀ o1 o2, ((w.alloc o1).alloc o2).cell? p = some v := fun o1 o2 => by
  have h1 := isSome_lt (w := w) (p := p) (by rw [h]; rfl)
  rw [World.cell?_alloc_lt _ _ _ (by simp; omega), World.cell?_alloc_lt _ _ _ h1, h]
set_option maxRecDepth 100000 in
set_option maxHeartbeats 800000 in
theorem nearest_calls (A : Option Addr) (ls : List (List UInt8)) (c n : Nat) (hln : ls.length = n) (hn : n ≤ 65536) (w : World) (hl : Ids w A ls) :
    Calls Try.prog 16 #[.slice A n c, .func (.func 17) #[] #[]] w fun e w' => e = .returned (nearV ls n) ∧ Below w.heap.size w w' := by
  have t1 : True := trivial
  have he := eql_has
  refine (callsIn_wide (n := 9)).1 ?_
  refine callsIn_of_wp_marks Try.func16 rfl trivial ?_ rfl
  simp only [Try.ntmps16, List.size_toArray, List.length_cons, List.length_nil, Nat.reduceAdd, Nat.reduceSub, Array.replicate_succ, Array.replicate_zero, List.push_toArray, List.append_toArray, List.nil_append, List.cons_append]
  refine wpIn_wide.2 ?_
  go_wp2_with (first
    | (have _t := t1; refine wpList_alloc (o := ⟨some 4, _, _, _, _, _⟩) rfl rfl 33 (idc zid).toArray (by kernel_rfl) ?_; intro w1 hb1 hg1 hs1; have hB1 : Below w.heap.size w w1 := (((Below.refl _ w).alloc (Nat.le_refl _) _).alloc (by simp) _).trans ((grownBy_below hg1).mono (by simp; omega)); have b0 := ((Boxed.new w 24 (.slice A n c)).alloc (.cells #[(.func (.func 17) #[] #[])] 37)).kept hg1 nofun; have b1 := (Boxed.new (w.alloc (.cells #[.slice A n c] 24)) 37 (.func (.func 17) #[] #[])).kept hg1 nofun; simp only [World.size_alloc] at b1 hb1; have c0 := cell_two b0.cell; have c1 := cell_two b1.cell; have B0 := Lib.hid b0; have B1 := Lib.hid b1; have BB := Lib.hid hb1; have HB1 := Lib.hid hB1; clear b0 b1 hb1 hg1 hs1 hB1; simp only [Act.put, List.setIfInBounds_toArray, List.set_cons_succ, List.set_cons_zero]; clear t1)
    | (go_at_call 18; refine (ancestors_calls _ _ _ _).mono ?_; rintro e w' ⟨rfl, hw⟩; have hw2 := hw.symm; clear hw; subst hw2))
  have hsz0 : w.heap.size + 1 + 1 < w1.heap.size := by have := BB.out.lt; omega
  have b0 := ((B0.out.alloc (.cells #[.int .i64 0] 3)).alloc (.cells #[.bool false] 4)).alloc (.cells #[.slice A n c] 24)
  have b1 := ((B1.out.alloc (.cells #[.int .i64 0] 3)).alloc (.cells #[.bool false] 4)).alloc (.cells #[.slice A n c] 24)
  have b2 := ((BB.out.alloc (.cells #[.int .i64 0] 3)).alloc (.cells #[.bool false] 4)).alloc (.cells #[.slice A n c] 24)
  have b3 := ((Boxed.new w1 3 (.int .i64 0)).alloc (.cells #[.bool false] 4)).alloc (.cells #[.slice A n c] 24)
  have b4 := (Boxed.new (w1.alloc (.cells #[.int .i64 0] 3)) 4 (.bool false)).alloc (.cells #[.slice A n c] 24)
  have b5 := Boxed.new ((w1.alloc (.cells #[.int .i64 0] 3)).alloc (.cells #[.bool false] 4)) 24 (.slice A n c)
  have hB0 : Below w.heap.size w (((w1.alloc (.cells #[.int .i64 0] 3)).alloc (.cells #[.bool false] 4)).alloc (.cells #[.slice A n c] 24)) := ((HB1.out.alloc HB1.out.size _).alloc (Nat.le_trans HB1.out.size (by simp)) _).alloc (Nat.le_trans HB1.out.size (by simp; omega)) _
  obtain ⟨W0, hW0⟩ : ∃ W0, ((w1.alloc (.cells #[.int .i64 0] 3)).alloc (.cells #[.bool false] 4)).alloc (.cells #[.slice A n c] 24) = W0 := ⟨_, rfl⟩
  have hs0 : W0.heap.size = w1.heap.size + 3 := by rw [← hW0]; simp
  simp only [World.size_alloc] at b4 b5
  rw [hW0] at b0 b1 b2 b3 b4 b5 hB0 ⊢
  have hI0 : Ids W0 A ls := hl.below hB0
  clear hW0 B0 B1 BB HB1 c0 c1 he
  refine (wpIn_wide (n := 9)).1 ?_
  refine wpIn_rangeFunc_ownH (F := Fence.wide) (n := 9) rfl (by decide) (gf := 31) (lb := #[.pointer (some ⟨w1.heap.size + 1 + 1, 0, none⟩)]) rfl trivial (enters_of Try.func31 (by kernel_rfl) rfl)
    (anc_stops Fence.wide 8 trivial rfl (by omega) (w1.heap.size + 1 + 1) w.heap.size n c A ls hln (by omega) W0 (by omega) hB0.size b5.cell hI0 ?hlt) KpA.trans ?hKb (Below.refl _ _) (fun _ => rfl)
    (NrI ls w W0.heap.size w1.heap.size A n c) (NrX ls w w1.heap.size n) ?hI ?hIx ?h0 (NrA ls W0.heap.size A n c w.heap.size w1.heap.size) ?hAx ?assign ?body ?done ?stop
  case hlt =>
    intro h0 ad e
    refine hl.row.lt (fun h => h0 ?_) ad e
    have := flat_length ls hl.len
    rw [h] at this
    simp at this
    exact List.eq_nil_of_length_eq_zero (by omega)
  case hKb =>
    intro W l o o' hl' ho hc hwk
    exact ⟨belowK_b (w := w) (Nat.le_refl _) W l o o' (by have := hB0.size; omega) ho hc hwk, fun v hv => cell_kept hv (grownBy_putObj' W l o') (fun r e => by cases e; exact ⟨o, ho, hc⟩)⟩
  case hI =>
    rintro s W W' row ⟨h1, hS, h2, h3, h4, h5, h6, h7⟩ hg hr
    have hne : ∀ B, B < W0.heap.size → some B ≠ row := fun B hB e => by have := (hr B e.symm).1; omega
    exact ⟨h1, Nat.le_trans hS hg.size, h2.kept hg (hne _ (by omega)), h3.kept hg (hne _ (by omega)), h4.grown hg (hne _ (by omega)), h5.kept hg (hne _ (by omega)), h6.kept hg (hne _ (by omega)), ownFrom_below (β := List Nat) (Nat.le_refl _) hB0.size s W W' row h7 hg hr⟩
  case hIx =>
    rintro k s W W' row ⟨h1, ⟨ini, x, h2, h3, h4, h5, h6, h7⟩, h8⟩ hg hr
    have hne : ∀ B, B < W0.heap.size → some B ≠ row := fun B hB e => by have := (hr B e.symm).1; omega
    exact ⟨h1, ⟨ini, x, h2, h3, h4, h5.grown hg (hne _ (by omega)), h6.kept hg (hne _ (by omega)), h7.kept hg (hne _ (by omega))⟩, ownFrom_below (β := List Nat) (Nat.le_refl _) hB0.size s W W' row h8 hg hr⟩
  case h0 => exact ⟨by simp, Nat.le_refl _, b0, b1, b2, b3, b4, hB0⟩
  case hAx =>
    rintro x a' s W W' row ⟨Bx, h1, h2, h3⟩ hg hr
    refine ⟨Bx, h1, h2.grown hg (fun e => ?_), h3⟩
    obtain ⟨_, o, ho, hc⟩ := hr Bx e.symm
    rw [show W.heap[Bx]? = _ from h2] at ho
    injection ho with ho
    subst ho
    cases hc
  case assign =>
    rintro l pre x W K hi hK
    rw [show encA ls x = #[.int .i64 (x : Int), idv (idAt ls x)] from rfl]
    simp only [frame_two, List.setIfInBounds_toArray, List.set_cons_succ, List.set_cons_zero]
    have hx32 := idAt_len hl.len x
    have hWs : w.heap.size ≤ W.heap.size := hi.2.2.2.2.2.2.2.size
    gi_upto_region 5 with (fail)
    refine round_list (by kernel_rfl) ?_
    refine wpList_alloc (o := ⟨some 8, _, _, _, _, _⟩) rfl rfl 33 (idc zid).toArray (by kernel_rfl) ?_
    intro w2 hb2 hg2 hs2
    simp only [Act.put, List.setIfInBounds_toArray, List.set_cons_succ, List.set_cons_zero]
    refine wpList_store_box rfl 33 _ _ rfl W.heap.size (idc (idAt ls x)) rfl rfl (t := 33) hb2 (by simp [idc_length, hx32, zid_len]) (by rw [idc_length, hx32]; kernel_rfl) (idc_one _) ?_
    intro w3 hb3 hg3 hs3
    have hB3 : Below W.heap.size W w3 := grownBy_below (grownBy_new hg2 hg3 (Nat.le_refl _))
    refine wpList_nil ?_
    exact hK _ _ (keepsFrom_below hB3) (kpA_below hWs hB3) (hi.below hB3) ⟨W.heap.size, hi.2.1, hb3, rfl⟩
  case body =>
    rintro l pre x a' W hlW ⟨r, hr⟩ ⟨h1, hS, h2, h3, h4, h5, h6, h7⟩ ⟨Bx, hBx, hbx, rfl⟩ hlen
    have hx32 := idAt_len hl.len x
    have hid : IdAt W ⟨Bx, 0, none⟩ (idAt ls x) := hbx.id_at hx32
    have hc1 := h3.cell
    have hI := Lib.hid (show NrI ls w W0.heap.size w1.heap.size A n c pre W from ⟨h1, hS, h2, h3, h4, h5, h6, h7⟩)
    have Hbx := Lib.hid hbx
    have HS := Lib.hid hS
    clear h1 h2 h3 h4 h5 h6 h7 hbx hS
    have t1 : True := trivial
    have t2 : True := trivial
    obtain ⟨B, hBq⟩ : ∃ B, accB (idAt ls x) = B := ⟨_, rfl⟩
    have HBq := Lib.hid hBq
    clear hBq
    gi_upto_region 6 with (fail)
    refine round_list (by kernel_rfl) ?_
    go_wp2_with (first
      | (have _t := t1; refine wpList_load_id rfl 33 _ rfl _ rfl (idAt ls x) (by kernel_rfl) hid ?_; simp only [Act.put, List.setIfInBounds_toArray, List.set_cons_succ, List.set_cons_zero]; clear t1)
      | (go_at_call 17; refine (accepted_calls (idAt ls x) hx32 _).mono ?_; rw [HBq.out]; rintro e w2 ⟨rfl, hb2⟩; have HB2 := Lib.hid hb2; clear hb2))
    have hI2 := hI.out.below HB2.out
    have Hbx2 := Lib.hid (Hbx.out.below HB2.out Hbx.out.lt)
    have hws : w.heap.size ≤ W.heap.size := hI.out.2.2.2.2.2.2.2.size
    refine norm_intro ?_
    cases B with
    | false =>
      gi_wp2
      exact ⟨keepsFrom_below HB2.out, kpA_below hws HB2.out, fun i hi => (by rcases List.mem_append.1 hi with h | h; exact hI2.1 i h; rw [List.mem_singleton] at h; subst h; exact HBq.out), hI2.2⟩
    | true =>
      obtain ⟨h1, hS', h2, h3, h4, h5, h6, h7⟩ := hI2
      have hid2 : IdAt w2 ⟨Bx, 0, none⟩ (idAt ls x) := Hbx2.out.id_at hx32
      have hcs := h2.cell
      have HN := Lib.hid (show NrS w2 (w.heap.size + 1 + 1) w1.heap.size (w1.heap.size + 1) w2 from ⟨⟨_, h4, by simp [idc_length, zid_len]⟩, ⟨_, h5⟩, ⟨_, h6⟩, rfl, rfl, rfl, rfl, fun _ _ _ _ => rfl⟩)
      obtain ⟨Z, hZ⟩ : ∃ Z, IntKind.i64.wrap ((n : Int) - 1 - x) = Z := ⟨_, rfl⟩
      have hz1 : IntKind.i64.wrap ((n : Int) - 1) = (n : Int) - 1 := IntWalk.i64_in _ (by omega)
      have n32 : w1.heap.size ≠ w.heap.size + 1 + 1 := by omega
      have n42 : w1.heap.size + 1 ≠ w.heap.size + 1 + 1 := by omega
      have n43 : w1.heap.size + 1 ≠ w1.heap.size := by omega
      have fin : ∀ W', NrS w2 (w.heap.size + 1 + 1) w1.heap.size (w1.heap.size + 1) W' → Blk W' (w.heap.size + 1 + 1) 33 (idc (idAt ls x)).toArray → Boxed W' w1.heap.size 3 (.int .i64 Z) → Boxed W' (w1.heap.size + 1) 4 (.bool true) →
          KeepsFrom W0.heap.size W W' ∧ NrX ls w w1.heap.size n .ret (pre ++ [x]) W' := fun W' h f2 f3 f4 => by
        have hsz : W.heap.size ≤ W'.heap.size := by rw [h.size]; exact HB2.out.size
        refine ⟨(keepsFrom_below HB2.out).trans ⟨Nat.le_of_eq h.size.symm, fun k o hk ho _ => by rw [h.rest k (by omega) (by omega) (by omega)]; exact ho⟩, rfl, ⟨pre, x, rfl, hI.out.1, HBq.out, f2, by rw [hZ]; exact f3, f4⟩, ?_⟩
        exact (hI.out.2.2.2.2.2.2.2.trans (HB2.out.mono hws)).trans ⟨h.os, h.tape, h.output, Nat.le_of_eq h.size.symm, fun k hk => h.rest k (by omega) (by omega) (by omega)⟩
      have Fin := Lib.hid fin
      clear fin h1 h2 h3 h4 h5 h6 h7
      gi_upto_region 7 with (fail)
      refine round_held (S := fun W' => NrS w2 (w.heap.size + 1 + 1) w1.heap.size (w1.heap.size + 1) W') (by kernel_rfl) (by kernel_rfl) HN.out.drew (fun hS => ?_)
      have hidS : ∀ W', NrS w2 (w.heap.size + 1 + 1) w1.heap.size (w1.heap.size + 1) W' → IdAt W' ⟨Bx, 0, none⟩ (idAt ls x) := fun W' h => Blk.id_at (t := 33) (show W'.heap[Bx]? = _ by rw [h.rest Bx (by have := hBx; omega) (by have := hBx; omega) (by have := hBx; omega)]; exact Hbx2.out) hx32
      have hslS : ∀ W', NrS w2 (w.heap.size + 1 + 1) w1.heap.size (w1.heap.size + 1) W' → W'.cell? ⟨w.heap.size, 0, none⟩ = some (.slice A n c) := fun W' h => by
        rw [show W'.cell? ⟨w.heap.size, 0, none⟩ = w2.cell? ⟨w.heap.size, 0, none⟩ from World.cell?_of_block (h.rest w.heap.size (by omega) (by omega) (by omega))]; exact hcs
      have HidS := Lib.hid hidS; have HslS := Lib.hid hslS
      clear hidS hslS hcs hid2
      refine wpAnyH_take (i := 0) rfl (by kernel_rfl) (by kernel_rfl) (by kernel_rfl) (fun _ _ _ h => h) (yieldsIf_load_id (by rfl) _ _ rfl _ rfl _ (by kernel_rfl) (HidS.out)) hS ?rest1
      simp only [List.getElem_toArray, List.getElem_cons_succ, List.getElem_cons_zero, Act.put, List.setIfInBounds_toArray, List.set_cons_succ, List.set_cons_zero]
      refine wpAnyH_take (i := 1) rfl (by kernel_rfl) (by kernel_rfl) (by kernel_rfl) (fun _ _ _ h => h) (yieldsIf_load_one (by rfl) _ _ rfl _ rfl _ Try.isAgg24 (HslS.out)) hS ?rest2
      simp only [List.getElem_toArray, List.getElem_cons_succ, List.getElem_cons_zero, Act.put, List.setIfInBounds_toArray, List.set_cons_succ, List.set_cons_zero]
      refine wpAnyH_take (i := 2) (v := ?v3) rfl (by kernel_rfl) (by kernel_rfl) (by kernel_rfl) (fun _ _ _ h => h) (Or.inl ⟨by rfl, ?hy3⟩) hS ?rest3
      case hy3 => (intro W hW; go_simp; first | with_reducible rfl | (go_bits; first | with_reducible rfl | (go_simp; with_reducible rfl)))
      simp only [List.getElem_toArray, List.getElem_cons_succ, List.getElem_cons_zero, Act.put, List.setIfInBounds_toArray, List.set_cons_succ, List.set_cons_zero]
      refine wpAnyH_take (i := 3) (v := ?v4) rfl (by kernel_rfl) (by kernel_rfl) (by kernel_rfl) (fun _ _ _ h => h) (Or.inl ⟨by rfl, ?hy4⟩) hS ?rest4
      case hy4 => (intro W hW; go_simp; first | with_reducible rfl | (go_bits; first | with_reducible rfl | (go_simp; with_reducible rfl)))
      simp only [List.getElem_toArray, List.getElem_cons_succ, List.getElem_cons_zero, Act.put, List.setIfInBounds_toArray, List.set_cons_succ, List.set_cons_zero]
      refine wpAnyH_take (i := 4) (v := ?v5) rfl (by kernel_rfl) (by kernel_rfl) (by kernel_rfl) (fun _ _ _ h => h) (Or.inl ⟨by rfl, ?hy5⟩) hS ?rest5
      case hy5 => (intro W hW; go_simp; first | with_reducible rfl | (go_bits; first | with_reducible rfl | (go_simp; with_reducible rfl)))
      simp only [List.getElem_toArray, List.getElem_cons_succ, List.getElem_cons_zero, Act.put, List.setIfInBounds_toArray, List.set_cons_succ, List.set_cons_zero]
      refine wpAnyH_take (i := 5) (v := ?v6) rfl (by kernel_rfl) (by kernel_rfl) (by kernel_rfl) (fun _ _ _ h => h) (Or.inl ⟨by rfl, ?hy6⟩) hS ?rest6
      case hy6 => (intro W hW; go_simp; first | with_reducible rfl | (go_bits; first | with_reducible rfl | (go_simp; with_reducible rfl)))
      simp only [List.getElem_toArray, List.getElem_cons_succ, List.getElem_cons_zero, Act.put, List.setIfInBounds_toArray, List.set_cons_succ, List.set_cons_zero]
      refine wpAnyH_ready (rs := [6]) (by kernel_rfl) (by simp) ?_
      refine AllReadyH.cons rfl (fun K hK => ?_) AllReadyH.nil
      rw [if_pos (by rfl)]
      simp only [List.getElem_toArray, List.getElem_cons_succ, List.getElem_cons_zero]
      obtain ⟨cs1, hcs1, hcn1⟩ := hS.k2
      refine wp_store_box 33 _ _ rfl (w.heap.size + 1 + 1) (idc (idAt ls x)) rfl rfl hcs1 (by rw [hcn1, idc_length, hx32]) (by rw [idc_length, hx32]; kernel_rfl) (idc_one _) ?_
      intro wn1 F2_1 hgn1 hzn1
      have hS1 := hS.store2 n32 n42 F2_1 (by simp [idc_length, hx32]) hgn1 hzn1
      refine hK.out _ _ ?s7 (fun hS => ?_)
      case s7 => exact (hS1)
      clear hK K
      simp only [List.getElem_toArray, List.getElem_cons_succ, List.getElem_cons_zero, Act.put, List.setIfInBounds_toArray, List.set_cons_succ, List.set_cons_zero]
      have F21 := Lib.hid F2_1
      clear F2_1 hgn1 hzn1
      refine wpAnyH_ready (rs := [7]) (by kernel_rfl) (by simp) ?_
      refine AllReadyH.cons rfl (fun K hK => ?_) AllReadyH.nil
      rw [if_pos (by rfl)]
      simp only [List.getElem_toArray, List.getElem_cons_succ, List.getElem_cons_zero]
      have hS2 := hS.set3 (.int .i64 Z) n32 n43
      obtain ⟨v2, hv2⟩ := hS.k3
      have F3_2 := Lib.hid (hv2.set (.int .i64 Z))
      have F2_2 := Lib.hid (F21.out.far (p := ⟨w1.heap.size, 0, none⟩) (fun e => n32 e.symm) (.int .i64 Z))
      have hcc2 := hv2.cell; have hff2 := hv2.frozen
      go_simp
      refine hK.out _ _ ?s8 (fun hS => ?_)
      case s8 => exact (hS2)
      clear hK K
      clear hcc2 hff2
      refine wpAnyH_ready (rs := [8]) (by kernel_rfl) (by simp) ?_
      refine AllReadyH.cons rfl (fun K hK => ?_) AllReadyH.nil
      rw [if_pos (by rfl)]
      simp only [List.getElem_toArray, List.getElem_cons_succ, List.getElem_cons_zero]
      have hS3 := hS.set4 (.bool true) n42 n43
      obtain ⟨v3, hv3⟩ := hS.k4
      have F4_3 := Lib.hid (hv3.set (.bool true))
      have F2_3 := Lib.hid (F2_2.out.far (p := ⟨w1.heap.size + 1, 0, none⟩) (fun e => n42 e.symm) (.bool true))
      have F3_3 := Lib.hid (F3_2.out.other (fun e => n43 e.symm) (.bool true))
      have hcc3 := hv3.cell; have hff3 := hv3.frozen
      go_simp
      refine hK.out _ _ ?s9 (fun hS => ?_)
      case s9 => exact (hS3)
      clear hK K
      refine wpAnyH_done (by kernel_rfl) ?_ _
      refine norm_intro ?_
      gi_wp2
      exact Fin.out _ hS F2_3.out F3_3.out F4_3.out
  case done =>
    rintro D ys W hD rfl hI hK
    have HI := Lib.hid hI; have HK := Lib.hid hK
    clear hI hK
    have hn32 : w1.heap.size ≠ w.heap.size + 1 + 1 := by omega
    have hn42 : w1.heap.size + 1 ≠ w.heap.size + 1 + 1 := by omega
    have hn43 : w1.heap.size + 1 ≠ w1.heap.size := by omega
    have hws : w.heap.size ≤ W.heap.size := HI.out.2.2.2.2.2.2.2.size
    go_wp2_with fail
    obtain ⟨h1, hS', h2, h3, h4, h5, h6, h7⟩ := HI.out
    have hcs := h2.cell
    have HN := Lib.hid (show NrS W (w.heap.size + 1 + 1) w1.heap.size (w1.heap.size + 1) W from ⟨⟨_, h4, by simp [idc_length, zid_len]⟩, ⟨_, h5⟩, ⟨_, h6⟩, rfl, rfl, rfl, rfl, fun _ _ _ _ => rfl⟩)
    clear h1 h2 h3 h4 h5 h6 h7
    refine Code.wp_mono norm_mono ?_
    refine wp_region_held_drew (S := fun W' => NrS W (w.heap.size + 1 + 1) w1.heap.size (w1.heap.size + 1) W') (by kernel_rfl) HN.out.drew (fun hS => ?_)
    have hslS : ∀ W', NrS W (w.heap.size + 1 + 1) w1.heap.size (w1.heap.size + 1) W' → W'.cell? ⟨w.heap.size, 0, none⟩ = some (.slice A n c) := fun W' h => by
      rw [show W'.cell? ⟨w.heap.size, 0, none⟩ = W.cell? ⟨w.heap.size, 0, none⟩ from World.cell?_of_block (h.rest w.heap.size (by omega) (by omega) (by omega))]; exact hcs
    have HslS := Lib.hid hslS
    clear hslS hcs
    refine wpAnyH_take (i := 0) (v := (idv zid)) rfl (by kernel_rfl) (by kernel_rfl) (by kernel_rfl) (fun _ _ _ h => h) (Or.inl ⟨by rfl, fun W _ => by kernel_rfl⟩) hS ?rest10
    simp only [List.getElem_toArray, List.getElem_cons_succ, List.getElem_cons_zero, Act.put, List.setIfInBounds_toArray, List.set_cons_succ, List.set_cons_zero]
    refine wpAnyH_take (i := 1) rfl (by kernel_rfl) (by kernel_rfl) (by kernel_rfl) (fun _ _ _ h => h) (yieldsIf_load_one (by rfl) _ _ rfl _ rfl _ Try.isAgg24 (HslS.out)) hS ?rest11
    simp only [List.getElem_toArray, List.getElem_cons_succ, List.getElem_cons_zero, Act.put, List.setIfInBounds_toArray, List.set_cons_succ, List.set_cons_zero]
    refine wpAnyH_take (i := 2) (v := ?v12) rfl (by kernel_rfl) (by kernel_rfl) (by kernel_rfl) (fun _ _ _ h => h) (Or.inl ⟨by rfl, ?hy12⟩) hS ?rest12
    case hy12 => (intro W hW; go_simp; first | with_reducible rfl | (go_bits; first | with_reducible rfl | (go_simp; with_reducible rfl)))
    simp only [List.getElem_toArray, List.getElem_cons_succ, List.getElem_cons_zero, Act.put, List.setIfInBounds_toArray, List.set_cons_succ, List.set_cons_zero]
    refine wpAnyH_ready (rs := [3]) (by kernel_rfl) (by simp) ?_
    refine AllReadyH.cons rfl (fun K hK => ?_) AllReadyH.nil
    rw [if_pos (by rfl)]
    simp only [List.getElem_toArray, List.getElem_cons_succ, List.getElem_cons_zero]
    obtain ⟨cs1, hcs1, hcn1⟩ := hS.k2
    refine wp_store_box 33 _ _ rfl (w.heap.size + 1 + 1) (idc zid) rfl rfl hcs1 (by rw [hcn1, idc_length, zid_len]) (by rw [idc_length, zid_len]; kernel_rfl) (idc_one _) ?_
    intro wn1 F2_1 hgn1 hzn1
    have hS1 := hS.store2 hn32 hn42 F2_1 (by simp [idc_length, zid_len]) hgn1 hzn1
    refine hK.out _ _ ?s13 (fun hS => ?_)
    case s13 => exact (hS1)
    clear hK K
    simp only [List.getElem_toArray, List.getElem_cons_succ, List.getElem_cons_zero, Act.put, List.setIfInBounds_toArray, List.set_cons_succ, List.set_cons_zero]
    have F21 := Lib.hid F2_1
    clear F2_1 hgn1 hzn1
    refine wpAnyH_ready (rs := [4]) (by kernel_rfl) (by simp) ?_
    refine AllReadyH.cons rfl (fun K hK => ?_) AllReadyH.nil
    rw [if_pos (by rfl)]
    simp only [List.getElem_toArray, List.getElem_cons_succ, List.getElem_cons_zero]
    have hS2 := hS.set3 (.int .i64 n) hn32 hn43
    obtain ⟨v2, hv2⟩ := hS.k3
    have F3_2 := Lib.hid (hv2.set (.int .i64 n))
    have F2_2 := Lib.hid (F21.out.far (p := ⟨w1.heap.size, 0, none⟩) (fun e => hn32 e.symm) (.int .i64 n))
    have hcc2 := hv2.cell; have hff2 := hv2.frozen
    go_simp
    refine hK.out _ _ ?s14 (fun hS => ?_)
    case s14 => exact (hS2)
    clear hK K
    clear hcc2 hff2
    refine wpAnyH_ready (rs := [5]) (by kernel_rfl) (by simp) ?_
    refine AllReadyH.cons rfl (fun K hK => ?_) AllReadyH.nil
    rw [if_pos (by rfl)]
    simp only [List.getElem_toArray, List.getElem_cons_succ, List.getElem_cons_zero]
    have hS3 := hS.set4 (.bool false) hn42 hn43
    obtain ⟨v3, hv3⟩ := hS.k4
    have F4_3 := Lib.hid (hv3.set (.bool false))
    have F2_3 := Lib.hid (F2_2.out.far (p := ⟨w1.heap.size + 1, 0, none⟩) (fun e => hn42 e.symm) (.bool false))
    have F3_3 := Lib.hid (F3_2.out.other (fun e => hn43 e.symm) (.bool false))
    have hcc3 := hv3.cell; have hff3 := hv3.frozen
    go_simp
    refine hK.out _ _ ?s15 (fun hS => ?_)
    case s15 => exact (hS3)
    clear hK K
    refine wpAnyH_done (by kernel_rfl) ?_ _
    refine norm_intro ?_
    clear hcc3 hff3
    have hKz : ((wn1.setCell ⟨w1.heap.size, 0, none⟩ (.int .i64 n)).setCell ⟨w1.heap.size + 1, 0, none⟩ (.bool false)).heap[D]? = some (.deferred (some [])) := by
      rw [hS.rest D (by omega) (by omega) (by omega)]; exact HK.out
    have hBz : Below w.heap.size w ((wn1.setCell ⟨w1.heap.size, 0, none⟩ (.int .i64 n)).setCell ⟨w1.heap.size + 1, 0, none⟩ (.bool false)) := HI.out.2.2.2.2.2.2.2.trans ⟨hS.os, hS.tape, hS.output, Nat.le_of_eq hS.size.symm, fun k hk => hS.rest k (by omega) (by omega) (by omega)⟩
    have HSz := Lib.hid hS; have HKz := Lib.hid hKz; have HBz := Lib.hid hBz
    clear hS hKz hBz
    go_wp2_with fail
    refine ⟨by simp, .inl ⟨_, _, rfl, run_takeDeferred HKz.out, ?_⟩⟩
    have hg9 := grownBy_putObj' ((wn1.setCell ⟨w1.heap.size, 0, none⟩ (.int .i64 n)).setCell ⟨w1.heap.size + 1, 0, none⟩ (.bool false)) D (.deferred none)
    have hnone : nearF ls n = none := by
      unfold nearF
      rw [List.find?_eq_none]
      intro i hi
      rw [HI.out.1 i hi]; decide
    have hV : nearV ls n = .tuple #[idv zid, .int .i64 n, .bool false] := by unfold nearV; rw [hnone]
    refine ⟨.tuple #[idv zid, .int .i64 n, .bool false], results_id3 rfl _ _ ⟨w.heap.size + 1 + 1, 0, none⟩ ⟨w1.heap.size, 0, none⟩ ⟨w1.heap.size + 1, 0, none⟩ zid n false rfl rfl rfl
      (Blk.id_at (F2_3.out.grown hg9 (fun e => by injection e with e; omega)) zid_len) (F3_3.out.kept hg9 (fun e => by injection e with e; omega)).cell (F4_3.out.kept hg9 (fun e => by injection e with e; omega)).cell, ?_, ?_⟩
    · rw [hV]
    · exact HBz.out.trans (belowK_b (w := w) (Nat.le_refl _) _ D _ _ (by have := hB0.size; omega) HKz.out rfl rfl)
  case stop =>
    rintro D k pre W hD ⟨j, hj, rfl⟩ ⟨rfl, ⟨ini, x, e1, e2, e3, f2, f3, f4⟩, hB⟩ hK
    gi_wp2
    refine ⟨by simp, .inl ⟨_, _, rfl, run_takeDeferred hK, ?_⟩⟩
    have hg9 := grownBy_putObj' W D (.deferred none)
    obtain ⟨j', rfl⟩ : ∃ j', j = j' + 1 := by
      cases j with
      | zero => simp [down] at e1
      | succ j' => exact ⟨j', rfl⟩
    rw [down_succ] at e1
    obtain ⟨rfl, e5⟩ := List.append_inj' e1 rfl
    obtain rfl : n - 1 - j' = x := by simpa using e5
    have hsome : nearF ls n = some (n - 1 - j') := by
      unfold nearF
      rw [List.find?_eq_some_iff_append]
      refine ⟨e3, down n j', (List.range (n - (j' + 1))).map (fun i => n - 1 - (j' + 1 + i)), ?_, fun i hi => by rw [e2 i hi]; rfl⟩
      have e6 : down n n = (List.range (j' + 1 + (n - (j' + 1)))).map fun j => n - 1 - j := by unfold down; congr 2; omega
      rw [e6, List.range_add, List.map_append, List.map_map]
      show down n (j' + 1) ++ _ = _
      rw [down_succ]
      simp [Function.comp_def]
    have hZ : IntKind.i64.wrap ((n : Int) - 1 - ((n - 1 - j' : Nat) : Int)) = (n : Int) - 1 - ((n - 1 - j' : Nat) : Int) := IntWalk.i64_in _ (by omega)
    have hV : nearV ls n = .tuple #[idv (idAt ls (n - 1 - j')), .int .i64 ((n : Int) - 1 - ((n - 1 - j' : Nat) : Int)), .bool true] := by unfold nearV; rw [hsome]
    rw [hZ] at f3
    refine ⟨.tuple #[idv (idAt ls (n - 1 - j')), .int .i64 ((n : Int) - 1 - ((n - 1 - j' : Nat) : Int)), .bool true], results_id3 rfl _ _ ⟨w.heap.size + 1 + 1, 0, none⟩ ⟨w1.heap.size, 0, none⟩ ⟨w1.heap.size + 1, 0, none⟩ (idAt ls (n - 1 - j')) _ true rfl rfl rfl
      (Blk.id_at (f2.grown hg9 (fun e => by injection e with e; omega)) (idAt_len hl.len _)) (f3.kept hg9 (fun e => by injection e with e; omega)).cell (f4.kept hg9 (fun e => by injection e with e; omega)).cell, ?_, ?_⟩
    · rw [hV]
    · exact hB.trans (belowK_b (w := w) (Nat.le_refl _) _ D _ _ (by have := hB0.size; omega) hK rfl rfl)
end Go.Proofs.Ytafpndmoognjlaa
