/- The law ReferencesNearest, first part: to the loop over the ancestors. -/
import Derived.Test.YtafpndmoognjlaaNr3
namespace Go.Proofs.Ytafpndmoognjlaa
open Go Go.ChangeShapes Go.WideShapes Go.ChangeAt Go.RowKit Go.Shelf
attribute [local go_sem] Oper.semAt_some
theorem near_some {ls : List (List UInt8)} {n k : Nat} (hk : k < n) (h1 : ∀ j, j < k → accB (idAt ls (n - 1 - j)) = false) (h2 : accB (idAt ls (n - 1 - k)) = true) : nearV ls n = .tuple #[idv (idAt ls (n - 1 - k)), .int .i64 ((n : Int) - 1 - ((n - 1 - k : Nat) : Int)), .bool true] := by
  have hsome : nearF ls n = some (n - 1 - k) := by
    unfold nearF
    rw [List.find?_eq_some_iff_append]
    refine ⟨h2, down n k, (List.range (n - (k + 1))).map (fun i => n - 1 - (k + 1 + i)), ?_, fun i hi => ?_⟩
    · have e6 : down n n = (List.range (k + 1 + (n - (k + 1)))).map fun j => n - 1 - j := by unfold down; congr 2; omega
      rw [e6, List.range_add, List.map_append, List.map_map]
      show down n (k + 1) ++ _ = _
      rw [down_succ]
      simp [Function.comp_def]
    · obtain ⟨j, hj, rfl⟩ := List.mem_map.1 hi
      rw [h1 j (List.mem_range.1 hj)]; rfl
  unfold nearV
  rw [hsome]
theorem near_none {ls : List (List UInt8)} {n : Nat} (h1 : ∀ j, j < n → accB (idAt ls (n - 1 - j)) = false) : nearV ls n = .tuple #[idv zid, .int .i64 n, .bool false] := by
  have hnone : nearF ls n = none := by
    unfold nearF
    rw [List.find?_eq_none]
    intro i hi
    obtain ⟨j, hj, rfl⟩ := List.mem_map.1 hi
    rw [h1 j (List.mem_range.1 hj)]; decide
  unfold nearV
  rw [hnone]
theorem near_inj {x y : List UInt8} {m k : Int} {a b : Bool} (h : Value.tuple #[idv x, .int .i64 m, .bool a] = .tuple #[idv y, .int .i64 k, .bool b]) : x = y ∧ m = k ∧ a = b := by
  injection h with h
  have h := congrArg Array.toList h
  simp at h
  obtain ⟨h1, h2, h3⟩ := h
  refine ⟨idc_inj ?_, h2, h3⟩
  unfold idv at h1
  injection h1 with h1
  simpa using congrArg Array.toList h1
def AtRel (ls : List (List UInt8)) (n : Nat) (i : Value) : Prop := ∃ k : Nat, k ≤ n ∧ i = .int .i64 ((n : Int) - 1 - k) ∧ ∀ j, j < k → accB (idAt ls (n - 1 - j)) = false
theorem wpList_load_idg {P : Program} {ops : Array Oper} {rest : List Oper} {o : Oper} {a : Act} {w : World} {Q : Exit → Act → World → Prop} (hw : Region.wanted o (yielded ops a.tmps) = true) (t : TypeId) (x : Operand) (ho : o.op = .load t x)
    (ad : Addr) (hx : a.eval x = .pointer (some ad)) (l : List UInt8) (ht : isId P t = true) (hc : IdAt w ad l) (h : wpList P ops Q rest (a.put o.dst (idv l)) w) : wpList P ops Q (o :: rest) a w := by
  rw [wpList, if_pos hw]
  exact .inl (wp_load_id t x ho ad hx l ht hc h)
theorem wpList_valueg {P : Program} {ops : Array Oper} {rest : List Oper} {o : Oper} {a : Act} {w : World} {Q : Exit → Act → World → Prop} (hw : Region.wanted o (yielded ops a.tmps) = true) (_hk : isLit o.op = true) (v : Value) (hv : (execOp a.eval o).run P w = .ok (.value v) w)
    (h : wpList P ops Q rest (a.put o.dst v) w) : wpList P ops Q (o :: rest) a w := by
  rw [wpList, if_pos hw]
  refine .inl ?_
  unfold Oper.wp; rw [hv]; exact h
theorem Boxed.below {W W' : World} {B g : Nat} {t : TypeId} {v : Value} (h : Boxed W g t v) (hb : Below B W W') (hg : g < B) : Boxed W' g t v := (hb.block g hg).trans h
theorem below_drewN1 (w : World) (k B : Nat) : Below B w (w.drewN k) := ⟨rfl, rfl, rfl, Nat.le_refl _, fun _ _ => rfl⟩
theorem Ids.own_kept {W W' : World} {A : Option Addr} {ls : List (List UInt8)} {row : Option Nat} (h : Ids W A ls) (hg : W.grownBy W' row) (hr : ∀ r, row = some r → ∃ o : Obj, W.heap[r]? = some o ∧ o.isCells = false) : Ids W' A ls :=
  ⟨by rcases h.row with h | ⟨ad, e, h⟩
      · exact .inl h
      · exact .inr ⟨ad, e, fun j u hu => cell_kept (h j u hu) hg hr⟩, h.len⟩
/-- between two rounds of the law's loop -/
def NlI (ls : List (List UInt8)) (A2 : Option Addr) (w : World) (S q s n : Nat) (stop : Int) (sv0 svo : Value) (pre : List Nat) (W : World) : Prop :=
  (∃ k, k ≤ n ∧ pre = down n k) ∧ S ≤ W.heap.size ∧ Boxed W w.heap.size 22 sv0 ∧ Boxed W (w.heap.size + 1) 3 (.int .i64 stop) ∧ Boxed W (w.heap.size + 1 + 1) 4 (.bool false) ∧ Boxed W q 24 svo ∧ Ids W A2 ls ∧ Boxed W s 3 (.int .i64 pre.length) ∧ Below w.heap.size w W
/-- a round has left: by 'break' at the stop; a 'return' never comes at what really comes -/
def NlX (ls : List (List UInt8)) (A2 : Option Addr) (w : World) (S q s n : Nat) (stop : Int) (sv0 svo : Value) (k : Code) (pre : List Nat) (W : World) : Prop :=
  (k = .exit 2 ∧ (pre.length : Int) = stop ∧ NlI ls A2 w S q s n stop sv0 svo pre W) ∨ (k = .ret ∧ ¬ ∃ k, k ≤ n ∧ pre = down n k)
theorem NlI.below {ls A2 w S q s n stop sv0 svo pre} {W W' : World} (h : NlI ls A2 w S q s n stop sv0 svo pre W) (hb : Below W.heap.size W W') : NlI ls A2 w S q s n stop sv0 svo pre W' := by
  obtain ⟨h1, hS, h2, h3, h4, h5, h6, h7, h8⟩ := h
  exact ⟨h1, Nat.le_trans hS hb.size, Boxed.below h2 hb h2.lt, Boxed.below h3 hb h3.lt, Boxed.below h4 hb h4.lt, Boxed.below h5 hb h5.lt, h6.below hb, Boxed.below h7 hb h7.lt, h8.trans (hb.mono h8.size)⟩
theorem NlI.own {ls A2 w S q s n stop sv0 svo} (h2 : w.heap.size + 2 < S) (hq : q < S) (hs : s < S) (hw : w.heap.size ≤ S) : OwnFrom S (NlI ls A2 w S q s n stop sv0 svo) := by
  rintro p W W' row ⟨h1, hS, h3, h4, h5, h6, h7, h8, h9⟩ hg hr
  have hne : ∀ B, B < S → some B ≠ row := fun B hB e => by have := (hr B e.symm).1; omega
  exact ⟨h1, Nat.le_trans hS hg.size, h3.kept hg (hne _ (by omega)), h4.kept hg (hne _ (by omega)), h5.kept hg (hne _ (by omega)), h6.kept hg (hne _ hq), h7.own_kept hg (fun r e => (hr r e).2), h8.kept hg (hne _ hs), ownFrom_below (β := List Nat) (Nat.le_refl _) hw p W W' row h9 hg hr⟩
theorem NlX.own {ls A2 w S q s n stop sv0 svo} (h2 : w.heap.size + 2 < S) (hq : q < S) (hs : s < S) (hw : w.heap.size ≤ S) : ∀ k, OwnFrom S (NlX ls A2 w S q s n stop sv0 svo k) := by
  rintro k p W W' row h hg hr
  rcases h with ⟨h1, h3, h4⟩ | h
  · exact .inl ⟨h1, h3, NlI.own h2 hq hs hw p W W' row h4 hg hr⟩
  · exact .inr h
theorem nl_next {ls A2 w S q s n stop sv0 svo pre} {W : World} (h : NlI ls A2 w S q s n stop sv0 svo pre W) (hw : w.heap.size + 2 < q) (hqs : q < s) (hA : ls ≠ [] → ∀ ad, A2 = some ad → ad.block < s) (nq m x : Nat) (hm : pre.length = m)
    (hx : ∃ k, k ≤ n ∧ pre ++ [x] = down n k) :
    KeepsFrom S W ((W.drewN nq).setCell ⟨s, 0, none⟩ (.int .i64 ((m : Int) + 1))) ∧ KpA s (s + 1) W ((W.drewN nq).setCell ⟨s, 0, none⟩ (.int .i64 ((m : Int) + 1))) ∧ NlI ls A2 w S q s n stop sv0 svo (pre ++ [x]) ((W.drewN nq).setCell ⟨s, 0, none⟩ (.int .i64 ((m : Int) + 1))) := by
  obtain ⟨h1, hS, h2, h3, h4, h5, h6, h7, h8⟩ := h
  have hfar : ∀ p : Addr, p.block ≠ s → ((W.drewN nq).setCell ⟨s, 0, none⟩ (.int .i64 ((m : Int) + 1))).cell? p = W.cell? p := fun p hp => by
    rw [World.cell?_setCell_far _ _ _ _ (fun e => hp e.symm)]; rfl
  have hB : ∀ B, B ≤ s → Below B W ((W.drewN nq).setCell ⟨s, 0, none⟩ (.int .i64 ((m : Int) + 1))) := fun B hB => (below_drewN1 W nq B).trans ((Below.refl B _).setCell (p := ⟨s, 0, none⟩) hB _)
  have d2 : Boxed (W.drewN nq) w.heap.size 22 sv0 := h2
  have d3 : Boxed (W.drewN nq) (w.heap.size + 1) 3 (.int .i64 stop) := h3
  have d4 : Boxed (W.drewN nq) (w.heap.size + 1 + 1) 4 (.bool false) := h4
  have d5 : Boxed (W.drewN nq) q 24 svo := h5
  have d7 : Boxed (W.drewN nq) s 3 (.int .i64 pre.length) := h7
  have hk := (KeepsOthers.setCell (W.drewN nq) ⟨s, 0, none⟩ (.int .i64 ((m : Int) + 1))).from S
  refine ⟨⟨hk.size, fun k o a b c => hk.same k o a b c⟩, ⟨hB s (Nat.le_refl _), fun v hv => by rw [hfar _ (by simp)]; exact hv⟩, hx, ?_, d2.other (by omega) _, d3.other (by omega) _, d4.other (by omega) _, d5.other (by omega) _, ?_, ?_, h8.trans (hB _ (by omega))⟩
  · simp [World.setCell]; exact hS
  · by_cases h0 : ls = []
    · subst h0; exact Ids.nil _ _
    · exact ⟨h6.row.keep fun ad e p hp _ => hfar p (by rw [hp]; have := hA h0 ad e; omega), h6.len⟩
  · have := d7.set (.int .i64 ((m : Int) + 1))
    rw [show ((pre ++ [x]).length : Int) = (m : Int) + 1 by rw [List.length_append, hm]; rfl]
    exact this
/-- what the last store, into the result's box, leaves alone -/
structure NlS (W : World) (b : Nat) (W' : World) : Prop where
  os : W'.os = W.os
  tape : W'.tape = W.tape
  output : W'.output = W.output
  size : W'.heap.size = W.heap.size
  rest : ∀ k, k ≠ b → W'.heap[k]? = W.heap[k]?
theorem NlS.cell {W W' : World} {b : Nat} (h : NlS W b W') {p : Addr} {v : Value} (hp : p.block ≠ b) (hc : W.cell? p = some v) : W'.cell? p = some v := by
  rw [World.cell?_of_block (h.rest p.block hp)]; exact hc
theorem NlS.id_at {W W' : World} {b : Nat} (h : NlS W b W') {p : Addr} {l : List UInt8} (hp : p.block ≠ b) (hc : IdAt W p l) : IdAt W' p l := hc.keep fun q hq => World.cell?_of_block (h.rest q.block (by rw [hq]; exact hp))
theorem NlS.set {W W' : World} {b : Nat} (h : NlS W b W') (v : Value) : NlS W b (W'.setCell ⟨b, 0, none⟩ v) :=
  ⟨h.os, h.tape, h.output, by simp [World.setCell, h.size], fun k hk => (Below.heap_setCell W' ⟨b, 0, none⟩ v k hk).trans (h.rest k hk)⟩
theorem results_cell {fn : Func} {p : Tmp} (h : fn.results = #[.cell p 4]) (tmps : Array Value) (w : World) (a : Addr) (y : Bool) (hp : tmps.getD p undef = .pointer (some a)) (hy : w.cell? a = some (.bool y)) :
    (results fn tmps).run Try.prog w = .ok (.bool y) w := by
  have hp' : tmps[p]?.getD undef = .pointer (some a) := by simpa using hp
  have hl4 : (loadVar 4 a).run Try.prog w = .ok (.bool y) w := by simp [loadVar, Sem.run_bind, Try.isAgg4, go_sem, hy]
  simp [results, h, hp', asAddr, hl4]
theorem cell_one {w : World} {p : Addr} {v : Value} (h : w.cell? p = some v) : ∀ o1, (w.alloc o1).cell? p = some v := fun o1 => by
  rw [World.cell?_alloc_lt _ _ _ (isSome_lt (w := w) (p := p) (by rw [h]; rfl)), h]
set_option maxRecDepth 100000 in
set_option maxHeartbeats 25600000 in
theorem law_small (A : Option Addr) (ls : List (List UInt8)) (c n : Nat) (stop : Int) (hln : ls.length = n) (hn : n ≤ 60) (w : World) (hl : Ids w A ls) :
    Calls Try.prog 4 #[.slice A n c, .int .i64 stop] w fun e w' => e = .returned (.bool true) ∧ Below w.heap.size w w' := by
  have hn60 : ¬ (60 : Int) < n := by omega
  obtain ⟨X, M, ok, hV, hX⟩ : ∃ X M ok, nearV ls n = .tuple #[idv X, .int .i64 M, .bool ok] ∧ X.length = 32 := by
    unfold nearV
    cases nearF ls n with
    | some i => exact ⟨_, _, _, rfl, idAt_len hl.len i⟩
    | none => exact ⟨_, _, _, rfl, zid_len⟩
  have HV := Lib.hid hV
  have Hln := Lib.hid hln
  have HL := Lib.hid hl
  clear hV hln hl
  refine (callsIn_wide (n := 12)).1 ?_
  refine callsIn_of_wp_marks Try.func4 rfl trivial ?_ rfl
  simp only [Try.ntmps4, List.size_toArray, List.length_cons, List.length_nil, Nat.reduceAdd, Nat.reduceSub, Array.replicate_succ, Array.replicate_zero, List.push_toArray, List.append_toArray, List.nil_append, List.cons_append]
  refine wpIn_wide.2 ?_
  go_wp2_with fail
  have a0 := ((Boxed.new w 22 (.slice A n c)).alloc (.cells #[.int .i64 stop] 3)).alloc (.cells #[.bool false] 4)
  have a1 := (Boxed.new (w.alloc (.cells #[.slice A n c] 22)) 3 (.int .i64 stop)).alloc (.cells #[.bool false] 4)
  have a2 := Boxed.new ((w.alloc (.cells #[.slice A n c] 22)).alloc (.cells #[.int .i64 stop] 3)) 4 (.bool false)
  have hB0 : Below w.heap.size w (((w.alloc (.cells #[.slice A n c] 22)).alloc (.cells #[.int .i64 stop] 3)).alloc (.cells #[.bool false] 4)) := (((Below.refl _ w).alloc (Nat.le_refl _) _).alloc (by simp) _).alloc (by simp; omega) _
  simp only [World.size_alloc] at a1 a2
  refine (known_calls _).mono ?_
  rintro e w1 ⟨rfl, hb1⟩
  have hs1 : w.heap.size + 3 ≤ w1.heap.size := by have := hb1.size; simp at this; omega
  have b0 := Boxed.below a0 hb1 a0.lt
  have b1 := Boxed.below a1 hb1 a1.lt
  have b2 := Boxed.below a2 hb1 a2.lt
  have hB1 := Lib.hid (hB0.trans (hb1.mono hB0.size))
  have D0 := Lib.hid b0; have D1 := Lib.hid b1; have D2 := Lib.hid b2
  have c0 := b0.cell
  clear a0 a1 a2 hB0 hb1 b0 b1 b2
  go_wp2_with fail
  refine (own_calls A ls c n Hln.out (by omega) _ (HL.out.below hB1.out)).mono ?_
  rintro e w2 ⟨v, rfl, hown, hb2⟩
  obtain ⟨A2, c2, rfl, -, h52, h62, h72, h82⟩ := Ids.of_own hown HL.out.len
  have H82 := Lib.hid h82; clear h82
  have hB2 := Lib.hid (hB1.out.trans (hb2.mono hB1.out.size))
  have hs2 := hb2.size
  have E0 := Lib.hid (Boxed.below D0.out hb2 D0.out.lt); have E1 := Lib.hid (Boxed.below D1.out hb2 D1.out.lt); have E2 := Lib.hid (Boxed.below D2.out hb2 D2.out.lt)
  have HO := Lib.hid (Ids.alloc h72 (.cells #[.slice A2 n c2] 24))
  have HBo := Lib.hid (Boxed.new w2 24 (.slice A2 n c2))
  clear hown hb2 h72 D0 D1 D2 c0
  have hB2' : Below w.heap.size w (w2.alloc (.cells #[.slice A2 n c2] 24)) := hB2.out.alloc hB2.out.size _
  go_wp2_with fail
  refine (nearest_calls A2 ls c2 n Hln.out (by omega) _ HO.out).mono ?_
  rw [HV.out]
  rintro e w3 ⟨rfl, hb3⟩
  have hs3 : w2.heap.size + 1 ≤ w3.heap.size := by have := hb3.size; simp at this; omega
  have F0 := Lib.hid (Boxed.below (E0.out.alloc _) hb3 (E0.out.alloc _).lt); have F1 := Lib.hid (Boxed.below (E1.out.alloc _) hb3 (E1.out.alloc _).lt); have F2 := Lib.hid (Boxed.below (E2.out.alloc _) hb3 (E2.out.alloc _).lt)
  have Fo := Lib.hid (Boxed.below HBo.out hb3 HBo.out.lt)
  have FO := Lib.hid (HO.out.below hb3)
  have hB3 := Lib.hid (hB2'.trans (hb3.mono hB2'.size))
  clear hb3 E0 E1 E2 HO HBo hB2'
  have t1 : True := trivial
  have t2 : True := trivial
  go_wp2_with (first
    | (have _t := t1; refine wpList_alloc (o := ⟨some 6, _, _, _, _, _⟩) rfl rfl 33 (idc zid).toArray (by kernel_rfl) ?_; intro w4 hb4 hg4 hs4; simp only [Act.put, List.setIfInBounds_toArray, List.set_cons_succ, List.set_cons_zero]; clear t1)
    | (have _t := t2; refine wpList_store_box rfl 33 _ _ rfl w3.heap.size (idc X) rfl rfl (t := 33) hb4 (by simp [idc_length, hX, zid_len]) (by rw [idc_length, hX]; kernel_rfl) (idc_one _) ?_; intro w5 hb5 hg5 hs5; have hb45 : Below w3.heap.size w3 w5 := grownBy_below (grownBy_new hg4 hg5 (Nat.le_refl _)); have g0 := (Boxed.below F0.out hb45 F0.out.lt).cell; have Gid := Lib.hid hb5; have HB45 := Lib.hid hb45; have hs5' := hb45.size; clear hb5 hg5 hs5 hg4 hs4 hb4 hb45; simp only [Act.put, List.setIfInBounds_toArray, List.set_cons_succ, List.set_cons_zero]; clear t2))
  have G0 := Lib.hid (Boxed.below F0.out HB45.out F0.out.lt); have G1 := Lib.hid (Boxed.below F1.out HB45.out F1.out.lt); have G2 := Lib.hid (Boxed.below F2.out HB45.out F2.out.lt)
  have Go := Lib.hid (Boxed.below Fo.out HB45.out Fo.out.lt)
  have GO := Lib.hid (FO.out.below HB45.out)
  have hB5 := Lib.hid (hB3.out.trans (HB45.out.mono hB3.out.size))
  have GL := Lib.hid (HL.out.below hB5.out)
  clear F0 F1 F2 Fo FO hB3 HB45
  go_loop [9] (fun i => AtRel ls n i) (fun i => (intOf i + 1).toNat)
  case atStart => exact ⟨0, Nat.zero_le _, by simp, fun j hj => by omega⟩
  case round =>
    obtain ⟨k, hk, rfl, hall⟩ := hrel
    have Hall := Lib.hid hall
    clear hall
    by_cases hlt : k < n
    · have i1 : (0 : Int) ≤ (n : Int) - 1 - k := by omega
      obtain ⟨j, hj⟩ : ∃ j, n - 1 - k = j := ⟨_, rfl⟩
      have hjI : (n : Int) - 1 - k = (j : Int) := by omega
      have hjn : (j : Int) < n := by omega
      have hjn' : j < n := by omega
      obtain ⟨ad, x, rfl, hx, hx32, hat⟩ := GL.out.at_ (k := j) (by rw [Hln.out]; exact hjn')
      have hxid : idAt ls j = x := by unfold idAt; rw [hx]; rfl
      obtain ⟨b, hb0⟩ : ∃ b : UInt8, x[31]?.getD 0 = b := ⟨_, rfl⟩
      have hcell : w5.cell? ((ad.add (j * 32)).add 31) = some (.int .u8 b.toNat) := hat.cells 31 _ (by unfold idc; rw [List.getElem?_map, List.getElem?_eq_getElem (by omega), ← hb0, List.getElem?_eq_getElem (by omega)]; rfl)
      have hcell3 : w5.cell? ⟨(ad.add (j * 32)).block, (ad.add (j * 32)).off + 31, none⟩ = some (.int .u8 b.toNat) := hcell
      clear hcell
      have hb2 : (b.toNat : Int) ≤ 255 := by have := b.toNat_lt; omega
      have hacc : accB x = decide (b.toNat % 2 = 1) := by unfold accB; rw [hb0]
      have Hj := Lib.hid hj; have Hxid := Lib.hid hxid; have Hat := Lib.hid hat; have Hacc := Lib.hid hacc
      clear hj hxid hat hacc hb0 hx
      rw [hjI]
      by_cases hodd : b.toNat % 2 = 1
      · have ht : ((b.toNat : Int) % 2 == 0) = false := by rw [beq_eq_false_iff_ne]; omega
        have hN := near_some hlt Hall.out (by rw [Hj.out, Hxid.out, Hacc.out, decide_eq_true hodd])
        rw [HV.out, Hj.out, Hxid.out] at hN
        obtain ⟨e1, e2, e3⟩ := near_inj hN
        subst e1 e2 e3
        clear hodd hN
        have HjI := Lib.hid hjI
        clear hjI
        obtain ⟨ad2, x2, rfl, hx2, -, hat2⟩ := GO.out.at_ (k := j) (by rw [Hln.out]; exact hjn')
        have hxx : x2 = X := by have := Hxid.out; unfold idAt at this; rw [hx2] at this; exact this
        subst hxx
        have go := Go.out.cell
        have hC : ∀ W : World, (∃ k, W = w5.drewN k) → IdAt W ⟨w3.heap.size, 0, none⟩ x2 := by rintro W ⟨_, rfl⟩; exact (Gid.out.id_at hX).drewN _
        have hD : ∀ W : World, (∃ k, W = w5.drewN k) → IdAt W (ad2.add (j * 32)) x2 := by rintro W ⟨_, rfl⟩; exact hat2.drewN _
        have HC := Lib.hid hC; have HD := Lib.hid hD; have Hx2 := Lib.hid hx2
        clear hC hD hat2 hx2
        go_wp2_with fail
        refine wp_region_quiet_lit (by kernel_rfl) (by kernel_rfl) ?_
        repeat (first | ((first | refine wpQuiet_load_id rfl _ _ rfl _ rfl _ (by kernel_rfl) HC.out ?_ | refine wpQuiet_load_id rfl _ _ rfl _ rfl _ (by kernel_rfl) HD.out ?_); simp only [Act.put, List.setIfInBounds_toArray, List.set_cons_succ, List.set_cons_zero]) | go_big_quiet_step (fail))
        refine wpQuiet_nil ?_
        intro _ hw'
        obtain ⟨nq, hw''⟩ := hw'
        subst hw''
        clear hcell3 ht go HC HD
        obtain ⟨W6, hW6⟩ : ∃ W6, w5.drewN nq = W6 := ⟨_, rfl⟩
        have hB56 : Below w5.heap.size w5 W6 := by rw [← hW6]; exact below_drewN1 _ _ _
        have hs6 : W6.heap.size = w5.heap.size := by rw [← hW6]; rfl
        have J0 := Lib.hid (Boxed.below G0.out hB56 G0.out.lt); have J1 := Lib.hid (Boxed.below G1.out hB56 G1.out.lt); have J2 := Lib.hid (Boxed.below G2.out hB56 G2.out.lt); have Jo := Lib.hid (Boxed.below Go.out hB56 Go.out.lt)
        have JO := Lib.hid (GO.out.below hB56)
        have JB := Lib.hid (hB5.out.trans (hB56.mono hB5.out.size))
        have Jid := Lib.hid (Blk.below Gid.out hB56 Gid.out.lt)
        have c0 := cell_one Jo.out.cell
        have d0 := J0.out.cell
        rw [hW6]
        clear hW6 hB56 G0 G1 G2 Go GO hB5 Gid g0 GL
        have t3 : True := trivial
        have t4 : True := trivial
        go_wp2_with (first
          | (have _t := t3; refine wpList_load_idg (by rfl) 33 _ rfl _ rfl _ (by kernel_rfl) (Jid.out.id_at hX) ?_; simp only [Act.put, List.setIfInBounds_toArray, List.set_cons_succ, List.set_cons_zero]; clear t3)
          | (have _t := t4; refine wpList_valueg (by rfl) rfl (idv zid) (by kernel_rfl) ?_; simp only [Act.put, List.setIfInBounds_toArray, List.set_cons_succ, List.set_cons_zero]; clear t4)
          | (go_at_call 18; refine (ancestors_calls _ _ _ _).mono ?_; rintro e w' ⟨rfl, hw⟩; have hw2 := hw.symm; clear hw; subst hw2))
        have hAs : ls ≠ [] → ∀ ad', (some ad2) = some ad' → ad'.block < w5.heap.size := fun h0 ad' e => by
          rw [← hs6]
          refine JO.out.row.lt (fun h => h0 ?_) ad' e
          have := flat_length ls JO.out.len
          rw [h] at this
          simp at this
          exact List.eq_nil_of_length_eq_zero (by omega)
        have b0 := (J0.out.alloc (.cells #[.int .i64 0] 3)).alloc (.cells #[Value.slice (some ad2) n c2] 24)
        have b1 := (J1.out.alloc (.cells #[.int .i64 0] 3)).alloc (.cells #[Value.slice (some ad2) n c2] 24)
        have b2 := (J2.out.alloc (.cells #[.int .i64 0] 3)).alloc (.cells #[Value.slice (some ad2) n c2] 24)
        have bo := (Jo.out.alloc (.cells #[.int .i64 0] 3)).alloc (.cells #[Value.slice (some ad2) n c2] 24)
        have bn := (Boxed.new W6 3 (.int .i64 0)).alloc (.cells #[Value.slice (some ad2) n c2] 24)
        have bi := Boxed.new (W6.alloc (.cells #[.int .i64 0] 3)) 24 (Value.slice (some ad2) n c2)
        have hO0 := (JO.out.alloc (.cells #[.int .i64 0] 3)).alloc (.cells #[Value.slice (some ad2) n c2] 24)
        have hBz : Below w.heap.size w ((W6.alloc (.cells #[.int .i64 0] 3)).alloc (.cells #[Value.slice (some ad2) n c2] 24)) := (JB.out.alloc JB.out.size _).alloc (Nat.le_trans JB.out.size (by simp)) _
        obtain ⟨W0, hW0⟩ : ∃ W0, (W6.alloc (.cells #[.int .i64 0] 3)).alloc (.cells #[Value.slice (some ad2) n c2] 24) = W0 := ⟨_, rfl⟩
        have hs0 : W0.heap.size = w5.heap.size + 2 := by rw [← hW0]; simp [hs6]
        simp only [World.size_alloc, hs6] at bi bn
        rw [hW0] at b0 b1 b2 bo bn bi hO0 hBz ⊢
        clear hW0 J0 J1 J2 Jo JO JB c0 d0
        refine (wpIn_wide (n := 12)).1 ?_
        refine wpIn_rangeFunc_ownH (F := Fence.wide) (n := 12) rfl (by decide) (gf := 31) (lb := #[.pointer (some ⟨w5.heap.size + 1, 0, none⟩)]) rfl trivial (enters_of Try.func31 (by kernel_rfl) rfl)
          (anc_stops Fence.wide 11 trivial rfl (by omega) (w5.heap.size + 1) w5.heap.size n c2 ((some ad2)) ls Hln.out (by omega) W0 (by omega) (by omega) bi.cell hO0 hAs) KpA.trans ?hKb0 (Below.refl _ _) (fun _ => rfl)
          (NlI ls ((some ad2)) w W0.heap.size w2.heap.size w5.heap.size n stop (Value.slice (some ad) n c) (Value.slice (some ad2) n c2)) (NlX ls ((some ad2)) w W0.heap.size w2.heap.size w5.heap.size n stop (Value.slice (some ad) n c) (Value.slice (some ad2) n c2)) ?hI0 ?hIx0 ?h00 (fun x a' W => ∃ Bx, W0.heap.size ≤ Bx ∧ Blk W Bx 33 (idc (idAt ls x)).toArray ∧ a' = { tmps := #[Value.slice (some ad) n c, Value.int IntKind.i64 stop, Value.pointer (some { block := w.heap.size, off := 0 }), Value.pointer (some { block := w.heap.size + 1, off := 0 }), Value.pointer (some { block := w.heap.size + 1 + 1, off := 0 }), Value.pointer (some { block := w2.heap.size, off := 0 }), Value.pointer (some { block := w3.heap.size, off := 0 }), Value.int IntKind.i64 (↑n - 1 - ↑j), Value.bool true, Value.int IntKind.i64 ↑j, Value.pointer (some { block := w5.heap.size, off := 0 }), .int .i64 (x : Int), .pointer (some ⟨Bx, 0, none⟩), undef, undef, undef, undef, undef, Value.bool true, Value.bool false, Value.bool false, Value.slice (some ad) n c, Value.int IntKind.i64 ↑n, Value.bool (decide ((60 : Int) < (n : Int))), Value.bool (decide ((60 : Int) < (n : Int))), undef, Value.slice (some ad) n c, Value.slice (some ad2) n c2, Value.tuple #[idv x2, Value.int IntKind.i64 (↑n - 1 - ↑j), Value.bool true], Value.slice (some ad2) n c2, Value.tuple #[idv x2, Value.int IntKind.i64 (↑n - 1 - ↑j), Value.bool true], idv x2, Value.int IntKind.i64 (↑n - 1 - ↑j), Value.bool true, Value.slice (some ad) n c, Value.int IntKind.i64 ↑n, Value.int IntKind.i64 (↑n - 1), Value.int IntKind.i64 ↑j, Value.bool true, Value.bool true, Value.slice (some ad) n c, Value.int IntKind.i64 ↑j, Value.pointer (some (ad.add (j * 32))), Value.pointer (some { block := (ad.add (j * 32)).block, off := (ad.add (j * 32)).off + 31 }), Value.int IntKind.u8 ↑b.toNat, Value.int IntKind.u8 (↑b.toNat % 2), Value.bool false, Value.bool false, u48, u49, Value.int IntKind.i64 ↑j, Value.bool true, Value.bool true, Value.bool true, Value.bool false, Value.bool false, idv x2, Value.slice (some ad2) n c2, Value.int IntKind.i64 ↑j, Value.pointer (some (ad2.add (j * 32))), idv x2, Value.bool false, Value.bool false, Value.bool false, Value.int IntKind.i64 (↑n - 1 - ↑j), Value.slice (some ad) n c, Value.int IntKind.i64 ↑n, Value.int IntKind.i64 (↑n - 1), Value.int IntKind.i64 ↑j, Value.int IntKind.i64 (↑n - 1 - ↑j), Value.bool false, Value.bool false, Value.bool false, Value.int IntKind.i64 ↑j, Value.bool false, Value.bool false, undef, undef, undef, undef, undef, undef, undef, undef, undef, undef, undef, undef, Value.bool false, Value.slice (some ad2) n c2, Value.func (Fn.func 31) #[] #[Value.pointer (some { block := w5.heap.size + 1, off := 0 })], .int .i64 (x : Int), idv (idAt ls x), undef, undef, undef, undef, undef, undef, undef, undef, undef, undef, undef, undef, undef, undef, undef, undef, undef, undef, undef, undef, undef, undef, undef, undef, undef, undef, undef, undef, undef, undef, undef, undef, undef, undef, undef, undef, undef, undef, undef, undef, undef, undef, undef, undef, undef, undef, undef, undef, undef, undef, undef, undef, undef, undef, undef, undef, undef, undef, undef, undef, undef, undef, undef, undef, undef, undef, undef, undef, undef, undef, undef], defers := [] }) ?hAx0 ?assign0 ?body0 ?done0 ?stop0
        case hKb0 =>
          intro W l o o' hl' ho hc hwk
          exact ⟨belowK_b (w := w5) (Nat.le_refl _) W l o o' (by omega) ho hc hwk, fun v hv => cell_kept hv (grownBy_putObj' W l o') (fun r e => by cases e; exact ⟨o, ho, hc⟩)⟩
        case hI0 => exact NlI.own (by omega) (by omega) (by omega) hBz.size
        case hIx0 => exact NlX.own (by omega) (by omega) (by omega) hBz.size
        case h00 => exact ⟨⟨0, Nat.zero_le _, rfl⟩, Nat.le_refl _, b0, b1, b2, bo, hO0, bn, hBz⟩
        case hAx0 =>
          rintro x a' s W W' row ⟨Bx, h1, h2, h3⟩ hg hr
          refine ⟨Bx, h1, h2.grown hg (fun e => ?_), h3⟩
          obtain ⟨_, o, ho, hc⟩ := hr Bx e.symm
          rw [show W.heap[Bx]? = _ from h2] at ho
          injection ho with ho
          subst ho
          cases hc
        case assign0 =>
          rintro l pre x W K hi hK
          rw [show encA ls x = #[.int .i64 (x : Int), idv (idAt ls x)] from rfl]
          simp only [frame_two, List.setIfInBounds_toArray, List.set_cons_succ, List.set_cons_zero]
          have hx32 := idAt_len hO0.len x
          have hWs : w5.heap.size ≤ W.heap.size := Nat.le_trans (by omega) hi.2.1
          gi_upto_region 15 with (fail)
          refine round_list (by kernel_rfl) ?_
          refine wpList_alloc (o := ⟨some 12, _, _, _, _, _⟩) rfl rfl 33 (idc zid).toArray (by kernel_rfl) ?_
          intro w7 hb7 hg7 hs7
          simp only [Act.put, List.setIfInBounds_toArray, List.set_cons_succ, List.set_cons_zero]
          refine wpList_store_box rfl 33 _ _ rfl W.heap.size (idc (idAt ls x)) rfl rfl (t := 33) hb7 (by simp [idc_length, hx32, zid_len]) (by rw [idc_length, hx32]; kernel_rfl) (idc_one _) ?_
          intro w8 hb8 hg8 hs8
          have hB8 : Below W.heap.size W w8 := grownBy_below (grownBy_new hg7 hg8 (Nat.le_refl _))
          refine wpList_nil ?_
          exact hK _ _ (keepsFrom_below hB8) (kpA_below hWs hB8) (hi.below hB8) ⟨W.heap.size, hi.2.1, hb8, rfl⟩
        case body0 =>
          rintro l pre x a' W hlW ⟨r, hr⟩ hi ⟨Bx, hBx, hbx, rfl⟩ hlen
          dsimp only
          have hx32 := idAt_len hO0.len x
          obtain ⟨⟨k7, hk7, hpre⟩, hSz, h3, h4, h5, h6, h7, h8, h9⟩ := hi
          have hpl : pre.length = k7 := by rw [hpre, down_length]
          have hlt7 : k7 < n := by omega
          rw [hpl] at h8
          have e1 := h3.cell; have e2 := h4.cell; have e3 := h5.cell; have e4 := h6.cell; have e5 := h8.cell
          have f3 := h5.frozen; have f5 := h8.frozen
          have Hpre := Lib.hid hpre; have Hpl := Lib.hid hpl; have HI7 := Lib.hid h7
          have P3 := Lib.hid h3; have P4 := Lib.hid h4; have P5 := Lib.hid h5; have P6 := Lib.hid h6; have P8 := Lib.hid h8; have P9 := Lib.hid h9; have HbX := Lib.hid hbx
          clear hpre hpl h3 h4 h5 h6 h7 h8 h9 hbx
          by_cases hxe : x = n - 1 - k7
          · obtain ⟨ad3, x3, hA3, hx3, -, hat3⟩ := HI7.out.at_ (k := x) (by rw [Hln.out]; omega)
            have hxx3 : idAt ls x = x3 := by unfold idAt; rw [hx3]; rfl
            have hIx : IdAt W ⟨Bx, 0, none⟩ (idAt ls x) := HbX.out.id_at hx32
            rw [← hxx3] at hat3
            cases hA3
            have hC : ∀ W' : World, (∃ k, W' = W.drewN k) → IdAt W' ⟨Bx, 0, none⟩ (idAt ls x) := by rintro W' ⟨_, rfl⟩; exact hIx.drewN _
            have hD : ∀ W' : World, (∃ k, W' = W.drewN k) → IdAt W' (ad2.add (x * 32)) (idAt ls x) := by rintro W' ⟨_, rfl⟩; exact hat3.drewN _
            have HC := Lib.hid hC; have HD := Lib.hid hD; have Hxe := Lib.hid hxe
            have i1 : ((x : Int) != (n : Int) - 1 - k7) = false := by rw [bne_eq_false_iff_eq]; omega
            have i2 : (x : Int) < n := by omega
            have i3 : (0 : Int) ≤ x := by omega
            have hnx := fun nq7 => nl_next (S := W0.heap.size) (q := w2.heap.size) (s := w5.heap.size) (sv0 := Value.slice (some ad) n c) (svo := Value.slice (some ad2) n c2) (show NlI ls (some ad2) w W0.heap.size w2.heap.size w5.heap.size n stop (Value.slice (some ad) n c) (Value.slice (some ad2) n c2) pre W from ⟨⟨k7, hk7, Hpre.out⟩, hSz, P3.out, P4.out, P5.out, P6.out, HI7.out, by rw [Hpl.out]; exact P8.out, P9.out⟩) (by omega) (by omega) hAs nq7 k7 x Hpl.out ⟨k7 + 1, by omega, by rw [down_succ, Hpre.out, Hxe.out]⟩
            have Hnx := Lib.hid hnx
            clear hC hD hat3 hIx hx3 hxx3 hxe hnx
            gi_upto_region 16 with (fail)
            refine round_quiet (by kernel_rfl) (by kernel_rfl) (by kernel_rfl) ?_
            repeat (first | ((first | refine wpQuiet_load_id rfl _ _ rfl _ rfl _ (by kernel_rfl) HC.out ?_ | refine wpQuiet_load_id rfl _ _ rfl _ rfl _ (by kernel_rfl) HD.out ?_); simp only [Act.put, List.setIfInBounds_toArray, List.set_cons_succ, List.set_cons_zero]) | go_big_quiet_step (fail))
            refine wpQuiet_nil ?_
            intro _ hw'
            obtain ⟨nq7, hw''⟩ := hw'
            subst hw''
            by_cases hstop : (k7 : Int) + 1 = stop
            · have i4 : ((k7 : Int) + 1 == stop) = true := by rw [beq_iff_eq]; exact hstop
              have Hstop := Lib.hid hstop
              clear hstop
              gi_wp2
              have h := Hnx.out nq7
              exact ⟨h.1, .inl ⟨rfl, by rw [List.length_append, Hpl.out]; exact Hstop.out, h.2.2⟩⟩
            · have i4 : ((k7 : Int) + 1 == stop) = false := by rw [beq_eq_false_iff_ne]; exact hstop
              clear hstop
              gi_wp2
              exact Hnx.out nq7
          · have i1 : ((x : Int) != (n : Int) - 1 - k7) = true := by rw [bne_iff_ne]; omega
            gi_upto_region 16 with (fail)
            refine round_quiet (by kernel_rfl) (by kernel_rfl) (by kernel_rfl) ?_
            repeat (go_big_quiet_step (fail))
            refine wpQuiet_nil ?_
            intro _ hw'
            obtain ⟨nq7, hw''⟩ := hw'
            subst hw''
            gi_wp2
            have hk := (KeepsOthers.setCell (W.drewN nq7) ⟨w.heap.size + 1 + 1, 0, none⟩ (.bool false)).from W0.heap.size
            refine ⟨⟨hk.size, fun k o a b c => hk.same k o a b c⟩, .inr ⟨rfl, ?_⟩⟩
            rintro ⟨k', hk', hd⟩
            have hl' := congrArg List.length hd
            rw [List.length_append, down_length, Hpl.out] at hl'
            obtain rfl : k' = k7 + 1 := by simpa using hl'.symm
            rw [down_succ] at hd
            have := (List.append_inj' hd rfl).2
            exact hxe (by simpa using this)
        case done0 =>
          rintro D ys W hD rfl ⟨-, hSz, h3, h4, h5, h6, h7, h8, h9⟩ hK
          rw [down_length] at h8
          have hm1 : ((n : Int) == (n : Int)) = true := beq_self_eq_true _
          by_cases hn0 : n = 0
          · exfalso; omega
          · have hn0' : 0 < n := by omega
            have hWl := h9.size
            have e1 := h6.cell
            have P3 := Lib.hid h3; have P4 := Lib.hid h4; have P5 := Lib.hid h5; have P6 := Lib.hid h6; have P7 := Lib.hid h7; have P8 := Lib.hid h8; have P9 := Lib.hid h9; have HK := Lib.hid hK
            clear h3 h4 h5 h6 h7 h8 h9 hK
            have t5 : True := trivial
            have t6 : True := trivial
            have t7 : True := trivial
            have t8 : True := trivial
            go_wp2_with (first
              | (go_at_call 19; refine (parent_calls _ ls c2 n Hln.out hn0' (by omega) _ P7.out).mono ?_; rintro e w11 ⟨rfl, hb11⟩; have HB11 := Lib.hid hb11; clear hb11)
              | (have _t := t5; refine wpList_alloc (o := ⟨some 13, _, _, _, _, _⟩) rfl rfl 33 (idc zid).toArray (by kernel_rfl) ?_; intro w12 hb12 hg12 hs12; have Hb12 := Lib.hid hb12; have Hg12 := Lib.hid hg12; clear hb12 hg12 hs12; simp only [Act.put, List.setIfInBounds_toArray, List.set_cons_succ, List.set_cons_zero]; clear t5)
              | (have _t := t6; refine wpList_store_box rfl 33 _ _ rfl w11.heap.size (idc (idAt ls (n - 1))) rfl rfl (t := 33) Hb12.out (by simp [idc_length, idAt_len P7.out.len (n - 1), zid_len]) (by rw [idc_length, idAt_len P7.out.len (n - 1)]; kernel_rfl) (idc_one _) ?_; intro w13 hb13 hg13 hs13; have HB13 := Lib.hid (HB11.out.trans ((grownBy_below (grownBy_new Hg12.out hg13 (Nat.le_refl _))).mono HB11.out.size)); have Hp13 := Lib.hid hb13; have c13 := (Boxed.below P6.out HB13.out P6.out.lt).cell; clear hb13 hg13 hs13; simp only [Act.put, List.setIfInBounds_toArray, List.set_cons_succ, List.set_cons_zero]; clear t6)
              | (go_at_call 16; refine (nearest_nil _ _ n (by omega) _).mono ?_; rintro e w14 ⟨rfl, hb14⟩; have HB14 := Lib.hid hb14; clear hb14)
              | (have _t := t7; refine wpList_alloc (o := ⟨some 15, _, _, _, _, _⟩) rfl rfl 33 (idc zid).toArray (by kernel_rfl) ?_; intro w15 hb15 hg15 hs15; have Hb15 := Lib.hid hb15; have Hg15 := Lib.hid hg15; clear hb15 hg15 hs15; simp only [Act.put, List.setIfInBounds_toArray, List.set_cons_succ, List.set_cons_zero]; clear t7)
              | (have _t := t8; refine wpList_store_box rfl 33 _ _ rfl w14.heap.size (idc zid) rfl rfl (t := 33) Hb15.out (by simp [idc_length, zid_len]) (by rw [idc_length, zid_len]; kernel_rfl) (idc_one _) ?_; intro w16 hb16 hg16 hs16; have HB16' := Lib.hid (HB14.out.trans ((grownBy_below (grownBy_new Hg15.out hg16 (Nat.le_refl _))).mono HB14.out.size)); have HB16 := Lib.hid (HB13.out.trans (HB16'.out.mono HB13.out.size)); have Hp16 := Lib.hid (Hp13.out.below HB16'.out Hp13.out.lt); clear hb16 hg16 hs16; simp only [Act.put, List.setIfInBounds_toArray, List.set_cons_succ, List.set_cons_zero]; clear t8))
            have hsz16 : W.heap.size ≤ w16.heap.size := HB16.out.size
            obtain ⟨j9, hj9⟩ : ∃ j9, n - 1 = j9 := ⟨_, rfl⟩
            have hj9I : (n : Int) - 1 = (j9 : Int) := by omega
            have q1 : (0 : Int) < n := by omega
            have q2 : (j9 : Int) < n := by omega
            have q3 : (0 : Int) ≤ j9 := by omega
            have Q7 := Lib.hid (P7.out.below HB16.out)
            obtain ⟨ad4, x4, hA4, hx4, -, hat4⟩ := Q7.out.at_ (k := j9) (by rw [Hln.out]; omega)
            cases hA4
            have hxx4 : idAt ls j9 = x4 := by unfold idAt; rw [hx4]; rfl
            have hlo := H82.out _ rfl
            have hs11 : W.heap.size ≤ w11.heap.size := HB11.out.size
            have hadb : ad2.block < w5.heap.size := hAs (by rintro rfl; have := Hln.out; simp at this; omega) _ rfl
            rw [← hxx4, ← hj9] at hat4
            have hx32 := idAt_len Q7.out.len (n - 1)
            have L10 := Lib.hid (Boxed.below P8.out HB16.out P8.out.lt).cell
            have L2 := Lib.hid (Boxed.below P3.out HB16.out P3.out.lt).cell
            have L3 := Lib.hid (Boxed.below P4.out HB16.out P4.out.lt).cell
            have L4 := Lib.hid (Boxed.below P5.out HB16.out P5.out.lt)
            have L5 := Lib.hid (Boxed.below P6.out HB16.out P6.out.lt).cell
            have LP := Lib.hid (Hp16.out.id_at hx32)
            have LO := Lib.hid hat4
            have Hj9 := Lib.hid hj9
            rw [hj9] at *
            clear hat4 hx4 hxx4 hj9
            refine Code.wp_mono norm_mono ?_
            refine wp_region_held_drew (S := fun W' => NlS w16 (w.heap.size + 1 + 1) W') (by kernel_rfl) ⟨rfl, rfl, rfl, rfl, fun _ _ => rfl⟩ (fun hS => ?_)
            refine wpAnyH_take (i := 0) rfl (by kernel_rfl) (by kernel_rfl) (by kernel_rfl) (fun _ _ _ h => h) (yieldsIf_load_one (by rfl) _ _ rfl _ rfl _ Try.isAgg3 (fun W' h => h.cell (by simp; omega) L10.out)) hS ?rest1
            simp only [List.getElem_toArray, List.getElem_cons_succ, List.getElem_cons_zero, Act.put, List.setIfInBounds_toArray, List.set_cons_succ, List.set_cons_zero]
            refine wpAnyH_take (i := 1) rfl (by kernel_rfl) (by kernel_rfl) (by kernel_rfl) (fun _ _ _ h => h) (yieldsIf_load_one (by rfl) _ _ rfl _ rfl _ Try.isAgg22 (fun W' h => h.cell (by simp; omega) L2.out)) hS ?rest2
            simp only [List.getElem_toArray, List.getElem_cons_succ, List.getElem_cons_zero, Act.put, List.setIfInBounds_toArray, List.set_cons_succ, List.set_cons_zero]
            refine wpAnyH_take (i := 2) (v := ?v3) rfl (by kernel_rfl) (by kernel_rfl) (by kernel_rfl) (fun _ _ _ h => h) (Or.inl ⟨by rfl, ?hy3⟩) hS ?rest3
            case hy3 => (intro W hW; go_simp; first | with_reducible rfl | (go_bits; first | with_reducible rfl | (go_simp; with_reducible rfl)))
            simp only [List.getElem_toArray, List.getElem_cons_succ, List.getElem_cons_zero, Act.put, List.setIfInBounds_toArray, List.set_cons_succ, List.set_cons_zero]
            refine wpAnyH_take (i := 3) (v := ?v4) rfl (by kernel_rfl) (by kernel_rfl) (by kernel_rfl) (fun _ _ _ h => h) (Or.inl ⟨by rfl, ?hy4⟩) hS ?rest4
            case hy4 => (intro W hW; go_simp; first | with_reducible rfl | (go_bits; first | with_reducible rfl | (go_simp; with_reducible rfl)))
            simp only [List.getElem_toArray, List.getElem_cons_succ, List.getElem_cons_zero, Act.put, List.setIfInBounds_toArray, List.set_cons_succ, List.set_cons_zero]
            refine wpAnyH_take (i := 4) (v := ?v5) rfl (by kernel_rfl) (by kernel_rfl) (by kernel_rfl) (fun _ _ _ h => h) (Or.inl ⟨by rfl, ?hy5⟩) hS ?rest5
            case hy5 => (intro W hW; go_simp; first | with_reducible rfl | (go_bits; first | with_reducible rfl | (go_simp; with_reducible rfl)))
            simp only [List.getElem_toArray, List.getElem_cons_succ, List.getElem_cons_zero, Act.put, List.setIfInBounds_toArray, List.set_cons_succ, List.set_cons_zero]
            refine wpAnyH_take (i := 5) (v := undef) rfl (by kernel_rfl) (by kernel_rfl) (by kernel_rfl) (fun _ _ _ h => h) (Or.inr ⟨by rfl, rfl⟩) hS ?rest6
            simp only [List.getElem_toArray, List.getElem_cons_succ, List.getElem_cons_zero, Act.put, List.setIfInBounds_toArray, List.set_cons_succ, List.set_cons_zero]
            refine wpAnyH_take (i := 6) (v := undef) rfl (by kernel_rfl) (by kernel_rfl) (by kernel_rfl) (fun _ _ _ h => h) (Or.inr ⟨by rfl, rfl⟩) hS ?rest7
            simp only [List.getElem_toArray, List.getElem_cons_succ, List.getElem_cons_zero, Act.put, List.setIfInBounds_toArray, List.set_cons_succ, List.set_cons_zero]
            refine wpAnyH_take (i := 7) (v := undef) rfl (by kernel_rfl) (by kernel_rfl) (by kernel_rfl) (fun _ _ _ h => h) (Or.inr ⟨by rfl, rfl⟩) hS ?rest8
            simp only [List.getElem_toArray, List.getElem_cons_succ, List.getElem_cons_zero, Act.put, List.setIfInBounds_toArray, List.set_cons_succ, List.set_cons_zero]
            refine wpAnyH_take (i := 8) (v := ?v9) rfl (by kernel_rfl) (by kernel_rfl) (by kernel_rfl) (fun _ _ _ h => h) (Or.inl ⟨by rfl, ?hy9⟩) hS ?rest9
            case hy9 => (intro W hW; go_simp; first | with_reducible rfl | (go_bits; first | with_reducible rfl | (go_simp; with_reducible rfl)))
            simp only [List.getElem_toArray, List.getElem_cons_succ, List.getElem_cons_zero, Act.put, List.setIfInBounds_toArray, List.set_cons_succ, List.set_cons_zero]
            refine wpAnyH_take (i := 9) (v := ?v10) rfl (by kernel_rfl) (by kernel_rfl) (by kernel_rfl) (fun _ _ _ h => h) (Or.inl ⟨by rfl, ?hy10⟩) hS ?rest10
            case hy10 => (intro W hW; go_simp; first | with_reducible rfl | (go_bits; first | with_reducible rfl | (go_simp; with_reducible rfl)))
            simp only [List.getElem_toArray, List.getElem_cons_succ, List.getElem_cons_zero, Act.put, List.setIfInBounds_toArray, List.set_cons_succ, List.set_cons_zero]
            refine wpAnyH_take (i := 10) (v := ?v11) rfl (by kernel_rfl) (by kernel_rfl) (by kernel_rfl) (fun _ _ _ h => h) (Or.inl ⟨by rfl, ?hy11⟩) hS ?rest11
            case hy11 => (intro W hW; go_simp; first | with_reducible rfl | (go_bits; first | with_reducible rfl | (go_simp; with_reducible rfl)))
            simp only [List.getElem_toArray, List.getElem_cons_succ, List.getElem_cons_zero, Act.put, List.setIfInBounds_toArray, List.set_cons_succ, List.set_cons_zero]
            refine wpAnyH_take (i := 11) rfl (by kernel_rfl) (by kernel_rfl) (by kernel_rfl) (fun _ _ _ h => h) (yieldsIf_load_one (by rfl) _ _ rfl _ rfl _ Try.isAgg22 (fun W' h => h.cell (by simp; omega) L2.out)) hS ?rest12
            simp only [List.getElem_toArray, List.getElem_cons_succ, List.getElem_cons_zero, Act.put, List.setIfInBounds_toArray, List.set_cons_succ, List.set_cons_zero]
            refine wpAnyH_take (i := 12) (v := ?v13) rfl (by kernel_rfl) (by kernel_rfl) (by kernel_rfl) (fun _ _ _ h => h) (Or.inl ⟨by rfl, ?hy13⟩) hS ?rest13
            case hy13 => (intro W hW; go_simp; first | with_reducible rfl | (go_bits; first | with_reducible rfl | (go_simp; with_reducible rfl)))
            simp only [List.getElem_toArray, List.getElem_cons_succ, List.getElem_cons_zero, Act.put, List.setIfInBounds_toArray, List.set_cons_succ, List.set_cons_zero]
            refine wpAnyH_take (i := 13) (v := ?v14) rfl (by kernel_rfl) (by kernel_rfl) (by kernel_rfl) (fun _ _ _ h => h) (Or.inl ⟨by rfl, ?hy14⟩) hS ?rest14
            case hy14 => (intro W hW; go_simp; first | with_reducible rfl | (go_bits; first | with_reducible rfl | (go_simp; with_reducible rfl)))
            simp only [List.getElem_toArray, List.getElem_cons_succ, List.getElem_cons_zero, Act.put, List.setIfInBounds_toArray, List.set_cons_succ, List.set_cons_zero]
            refine wpAnyH_take (i := 14) (v := ?v15) rfl (by kernel_rfl) (by kernel_rfl) (by kernel_rfl) (fun _ _ _ h => h) (Or.inl ⟨by rfl, ?hy15⟩) hS ?rest15
            case hy15 => (intro W hW; go_simp; first | with_reducible rfl | (go_bits; first | with_reducible rfl | (go_simp; with_reducible rfl)))
            simp only [List.getElem_toArray, List.getElem_cons_succ, List.getElem_cons_zero, Act.put, List.setIfInBounds_toArray, List.set_cons_succ, List.set_cons_zero]
            refine wpAnyH_take (i := 15) (v := ?v16) rfl (by kernel_rfl) (by kernel_rfl) (by kernel_rfl) (fun _ _ _ h => h) (Or.inl ⟨by rfl, ?hy16⟩) hS ?rest16
            case hy16 => (intro W hW; go_simp; first | with_reducible rfl | (go_bits; first | with_reducible rfl | (go_simp; with_reducible rfl)))
            simp only [List.getElem_toArray, List.getElem_cons_succ, List.getElem_cons_zero, Act.put, List.setIfInBounds_toArray, List.set_cons_succ, List.set_cons_zero]
            refine wpAnyH_take (i := 16) (v := ?v17) rfl (by kernel_rfl) (by kernel_rfl) (by kernel_rfl) (fun _ _ _ h => h) (Or.inl ⟨by rfl, ?hy17⟩) hS ?rest17
            case hy17 => (intro W hW; go_simp; first | with_reducible rfl | (go_bits; first | with_reducible rfl | (go_simp; with_reducible rfl)))
            simp only [List.getElem_toArray, List.getElem_cons_succ, List.getElem_cons_zero, Act.put, List.setIfInBounds_toArray, List.set_cons_succ, List.set_cons_zero]
            refine wpAnyH_take (i := 17) (v := ?v18) rfl (by kernel_rfl) (by kernel_rfl) (by kernel_rfl) (fun _ _ _ h => h) (Or.inl ⟨by rfl, ?hy18⟩) hS ?rest18
            case hy18 => (intro W hW; go_simp; first | with_reducible rfl | (go_bits; first | with_reducible rfl | (go_simp; with_reducible rfl)))
            simp only [List.getElem_toArray, List.getElem_cons_succ, List.getElem_cons_zero, Act.put, List.setIfInBounds_toArray, List.set_cons_succ, List.set_cons_zero]
            refine wpAnyH_take (i := 18) (v := ?v19) rfl (by kernel_rfl) (by kernel_rfl) (by kernel_rfl) (fun _ _ _ h => h) (Or.inl ⟨by rfl, ?hy19⟩) hS ?rest19
            case hy19 => (intro W hW; go_simp; first | with_reducible rfl | (go_bits; first | with_reducible rfl | (go_simp; with_reducible rfl)))
            simp only [List.getElem_toArray, List.getElem_cons_succ, List.getElem_cons_zero, Act.put, List.setIfInBounds_toArray, List.set_cons_succ, List.set_cons_zero]
            refine wpAnyH_take (i := 19) (v := ?v20) rfl (by kernel_rfl) (by kernel_rfl) (by kernel_rfl) (fun _ _ _ h => h) (Or.inl ⟨by rfl, ?hy20⟩) hS ?rest20
            case hy20 => (intro W hW; go_simp; first | with_reducible rfl | (go_bits; first | with_reducible rfl | (go_simp; with_reducible rfl)))
            simp only [List.getElem_toArray, List.getElem_cons_succ, List.getElem_cons_zero, Act.put, List.setIfInBounds_toArray, List.set_cons_succ, List.set_cons_zero]
            refine wpAnyH_take (i := 20) rfl (by kernel_rfl) (by kernel_rfl) (by kernel_rfl) (fun _ _ _ h => h) (yieldsIf_load_id (by rfl) _ _ rfl _ rfl _ (by kernel_rfl) (fun W' h => h.id_at (by simp; omega) LP.out)) hS ?rest21
            simp only [List.getElem_toArray, List.getElem_cons_succ, List.getElem_cons_zero, Act.put, List.setIfInBounds_toArray, List.set_cons_succ, List.set_cons_zero]
            refine wpAnyH_take (i := 21) rfl (by kernel_rfl) (by kernel_rfl) (by kernel_rfl) (fun _ _ _ h => h) (yieldsIf_load_one (by rfl) _ _ rfl _ rfl _ Try.isAgg24 (fun W' h => h.cell (by simp; omega) L5.out)) hS ?rest22
            simp only [List.getElem_toArray, List.getElem_cons_succ, List.getElem_cons_zero, Act.put, List.setIfInBounds_toArray, List.set_cons_succ, List.set_cons_zero]
            refine wpAnyH_take (i := 22) rfl (by kernel_rfl) (by kernel_rfl) (by kernel_rfl) (fun _ _ _ h => h) (yieldsIf_load_one (by rfl) _ _ rfl _ rfl _ Try.isAgg22 (fun W' h => h.cell (by simp; omega) L2.out)) hS ?rest23
            simp only [List.getElem_toArray, List.getElem_cons_succ, List.getElem_cons_zero, Act.put, List.setIfInBounds_toArray, List.set_cons_succ, List.set_cons_zero]
            refine wpAnyH_take (i := 23) (v := ?v24) rfl (by kernel_rfl) (by kernel_rfl) (by kernel_rfl) (fun _ _ _ h => h) (Or.inl ⟨by rfl, ?hy24⟩) hS ?rest24
            case hy24 => (intro W hW; go_simp; first | with_reducible rfl | (go_bits; first | with_reducible rfl | (go_simp; with_reducible rfl)))
            simp only [List.getElem_toArray, List.getElem_cons_succ, List.getElem_cons_zero, Act.put, List.setIfInBounds_toArray, List.set_cons_succ, List.set_cons_zero]
            refine wpAnyH_take (i := 24) (v := ?v25) rfl (by kernel_rfl) (by kernel_rfl) (by kernel_rfl) (fun _ _ _ h => h) (Or.inl ⟨by rfl, ?hy25⟩) hS ?rest25
            case hy25 => (intro W hW; go_simp; first | with_reducible rfl | (go_bits; first | with_reducible rfl | (go_simp; with_reducible rfl)))
            simp only [List.getElem_toArray, List.getElem_cons_succ, List.getElem_cons_zero, Act.put, List.setIfInBounds_toArray, List.set_cons_succ, List.set_cons_zero]
            refine wpAnyH_take (i := 25) (v := ?v26) rfl (by kernel_rfl) (by kernel_rfl) (by kernel_rfl) (fun _ _ _ h => h) (Or.inl ⟨by rfl, ?hy26⟩) hS ?rest26
            case hy26 => (intro W hW; go_simp; first | with_reducible rfl | (go_bits; first | with_reducible rfl | (go_simp; with_reducible rfl)))
            simp only [List.getElem_toArray, List.getElem_cons_succ, List.getElem_cons_zero, Act.put, List.setIfInBounds_toArray, List.set_cons_succ, List.set_cons_zero]
            refine wpAnyH_take (i := 26) rfl (by kernel_rfl) (by kernel_rfl) (by kernel_rfl) (fun _ _ _ h => h) (yieldsIf_load_id (by rfl) _ _ rfl _ rfl _ (by kernel_rfl) (fun W' h => h.id_at (by rw [Addr.add_block]; omega) LO.out)) hS ?rest27
            simp only [List.getElem_toArray, List.getElem_cons_succ, List.getElem_cons_zero, Act.put, List.setIfInBounds_toArray, List.set_cons_succ, List.set_cons_zero]
            refine wpAnyH_take (i := 27) (v := ?v28) rfl (by kernel_rfl) (by kernel_rfl) (by kernel_rfl) (fun _ _ _ h => h) (Or.inl ⟨by rfl, ?hy28⟩) hS ?rest28
            case hy28 => (intro W hW; go_simp; first | with_reducible rfl | (go_bits; first | with_reducible rfl | (go_simp; with_reducible rfl)))
            simp only [List.getElem_toArray, List.getElem_cons_succ, List.getElem_cons_zero, Act.put, List.setIfInBounds_toArray, List.set_cons_succ, List.set_cons_zero]
            refine wpAnyH_take (i := 28) (v := ?v29) rfl (by kernel_rfl) (by kernel_rfl) (by kernel_rfl) (fun _ _ _ h => h) (Or.inl ⟨by rfl, ?hy29⟩) hS ?rest29
            case hy29 => (intro W hW; go_simp; first | with_reducible rfl | (go_bits; first | with_reducible rfl | (go_simp; with_reducible rfl)))
            simp only [List.getElem_toArray, List.getElem_cons_succ, List.getElem_cons_zero, Act.put, List.setIfInBounds_toArray, List.set_cons_succ, List.set_cons_zero]
            refine wpAnyH_take (i := 29) (v := ?v30) rfl (by kernel_rfl) (by kernel_rfl) (by kernel_rfl) (fun _ _ _ h => h) (Or.inl ⟨by rfl, ?hy30⟩) hS ?rest30
            case hy30 => (intro W hW; go_simp; first | with_reducible rfl | (go_bits; first | with_reducible rfl | (go_simp; with_reducible rfl)))
            simp only [List.getElem_toArray, List.getElem_cons_succ, List.getElem_cons_zero, Act.put, List.setIfInBounds_toArray, List.set_cons_succ, List.set_cons_zero]
            refine wpAnyH_take (i := 30) (v := ?v31) rfl (by kernel_rfl) (by kernel_rfl) (by kernel_rfl) (fun _ _ _ h => h) (Or.inl ⟨by rfl, ?hy31⟩) hS ?rest31
            case hy31 => (intro W hW; go_simp; first | with_reducible rfl | (go_bits; first | with_reducible rfl | (go_simp; with_reducible rfl)))
            simp only [List.getElem_toArray, List.getElem_cons_succ, List.getElem_cons_zero, Act.put, List.setIfInBounds_toArray, List.set_cons_succ, List.set_cons_zero]
            refine wpAnyH_take (i := 31) (v := ?v32) rfl (by kernel_rfl) (by kernel_rfl) (by kernel_rfl) (fun _ _ _ h => h) (Or.inl ⟨by rfl, ?hy32⟩) hS ?rest32
            case hy32 => (intro W hW; go_simp; first | with_reducible rfl | (go_bits; first | with_reducible rfl | (go_simp; with_reducible rfl)))
            simp only [List.getElem_toArray, List.getElem_cons_succ, List.getElem_cons_zero, Act.put, List.setIfInBounds_toArray, List.set_cons_succ, List.set_cons_zero]
            refine wpAnyH_take (i := 32) rfl (by kernel_rfl) (by kernel_rfl) (by kernel_rfl) (fun _ _ _ h => h) (yieldsIf_load_one (by rfl) _ _ rfl _ rfl _ Try.isAgg22 (fun W' h => h.cell (by simp; omega) L2.out)) hS ?rest33
            simp only [List.getElem_toArray, List.getElem_cons_succ, List.getElem_cons_zero, Act.put, List.setIfInBounds_toArray, List.set_cons_succ, List.set_cons_zero]
            refine wpAnyH_take (i := 33) (v := ?v34) rfl (by kernel_rfl) (by kernel_rfl) (by kernel_rfl) (fun _ _ _ h => h) (Or.inl ⟨by rfl, ?hy34⟩) hS ?rest34
            case hy34 => (intro W hW; go_simp; first | with_reducible rfl | (go_bits; first | with_reducible rfl | (go_simp; with_reducible rfl)))
            simp only [List.getElem_toArray, List.getElem_cons_succ, List.getElem_cons_zero, Act.put, List.setIfInBounds_toArray, List.set_cons_succ, List.set_cons_zero]
            refine wpAnyH_take (i := 34) (v := ?v35) rfl (by kernel_rfl) (by kernel_rfl) (by kernel_rfl) (fun _ _ _ h => h) (Or.inl ⟨by rfl, ?hy35⟩) hS ?rest35
            case hy35 => (intro W hW; go_simp; first | with_reducible rfl | (go_bits; first | with_reducible rfl | (go_simp; with_reducible rfl)))
            simp only [List.getElem_toArray, List.getElem_cons_succ, List.getElem_cons_zero, Act.put, List.setIfInBounds_toArray, List.set_cons_succ, List.set_cons_zero]
            refine wpAnyH_take (i := 35) (v := ?v36) rfl (by kernel_rfl) (by kernel_rfl) (by kernel_rfl) (fun _ _ _ h => h) (Or.inl ⟨by rfl, ?hy36⟩) hS ?rest36
            case hy36 => (intro W hW; go_simp; first | with_reducible rfl | (go_bits; first | with_reducible rfl | (go_simp; with_reducible rfl)))
            simp only [List.getElem_toArray, List.getElem_cons_succ, List.getElem_cons_zero, Act.put, List.setIfInBounds_toArray, List.set_cons_succ, List.set_cons_zero]
            refine wpAnyH_take (i := 36) (v := ?v37) rfl (by kernel_rfl) (by kernel_rfl) (by kernel_rfl) (fun _ _ _ h => h) (Or.inl ⟨by rfl, ?hy37⟩) hS ?rest37
            case hy37 => (intro W hW; go_simp; first | with_reducible rfl | (go_bits; first | with_reducible rfl | (go_simp; with_reducible rfl)))
            simp only [List.getElem_toArray, List.getElem_cons_succ, List.getElem_cons_zero, Act.put, List.setIfInBounds_toArray, List.set_cons_succ, List.set_cons_zero]
            refine wpAnyH_take (i := 37) (v := ?v38) rfl (by kernel_rfl) (by kernel_rfl) (by kernel_rfl) (fun _ _ _ h => h) (Or.inl ⟨by rfl, ?hy38⟩) hS ?rest38
            case hy38 => (intro W hW; go_simp; first | with_reducible rfl | (go_bits; first | with_reducible rfl | (go_simp; with_reducible rfl)))
            simp only [List.getElem_toArray, List.getElem_cons_succ, List.getElem_cons_zero, Act.put, List.setIfInBounds_toArray, List.set_cons_succ, List.set_cons_zero]
            refine wpAnyH_take (i := 38) (v := ?v39) rfl (by kernel_rfl) (by kernel_rfl) (by kernel_rfl) (fun _ _ _ h => h) (Or.inl ⟨by rfl, ?hy39⟩) hS ?rest39
            case hy39 => (intro W hW; go_simp; first | with_reducible rfl | (go_bits; first | with_reducible rfl | (go_simp; with_reducible rfl)))
            simp only [List.getElem_toArray, List.getElem_cons_succ, List.getElem_cons_zero, Act.put, List.setIfInBounds_toArray, List.set_cons_succ, List.set_cons_zero]
            refine wpAnyH_take (i := 39) (v := ?v40) rfl (by kernel_rfl) (by kernel_rfl) (by kernel_rfl) (fun _ _ _ h => h) (Or.inl ⟨by rfl, ?hy40⟩) hS ?rest40
            case hy40 => (intro W hW; go_simp; first | with_reducible rfl | (go_bits; first | with_reducible rfl | (go_simp; with_reducible rfl)))
            simp only [List.getElem_toArray, List.getElem_cons_succ, List.getElem_cons_zero, Act.put, List.setIfInBounds_toArray, List.set_cons_succ, List.set_cons_zero]
            refine wpAnyH_ready (rs := [40]) (by kernel_rfl) (by simp) ?_
            refine AllReadyH.cons rfl (fun K hK => ?_) AllReadyH.nil
            rw [if_pos (by rfl)]
            simp only [List.getElem_toArray, List.getElem_cons_succ, List.getElem_cons_zero]
            have hc4 := L4.out.cell; have hf4 := L4.out.frozen
            have hDlt : D < W.heap.size := (Array.getElem?_eq_some_iff.1 HK.out).1
            have HKz : Hid (∀ W', NlS w16 (w.heap.size + 1 + 1) W' → W'.heap[D]? = some (.deferred (some []))) := Lib.hid (fun W' h => (h.rest D (by omega)).trans ((HB16.out.block D hDlt).trans HK.out))
            have HBz : Hid (∀ W', NlS w16 (w.heap.size + 1 + 1) W' → Below w.heap.size w W') := Lib.hid (fun W' h => (P9.out.trans (HB16.out.mono hWl)).trans ⟨h.os, h.tape, h.output, Nat.le_of_eq h.size.symm, fun k hk => h.rest k (by omega)⟩)
            have HC4 : Hid (Boxed (w16.drew.setCell ⟨w.heap.size + 1 + 1, 0, none⟩ (.bool true)) (w.heap.size + 1 + 1) 4 (.bool true)) := Lib.hid (Boxed.set (W := w16.drew) (.bool true) L4.out)
            go_simp
            refine hK.out _ _ ?s41 (fun hS => ?_)
            case s41 => exact (hS.set (.bool true))
            clear hK K
            clear hc4 hf4
            refine wpAnyH_done (by kernel_rfl) ?_ _
            refine norm_intro ?_
            have HS9 := Lib.hid hS
            clear hS
            go_wp2_with fail
            refine ⟨by simp, .inl ⟨_, _, rfl, run_takeDeferred (HKz.out _ HS9.out), ?_⟩⟩
            have hg9 := grownBy_putObj' (w16.drew.setCell ⟨w.heap.size + 1 + 1, 0, none⟩ (.bool true)) D (.deferred none)
            refine ⟨.bool true, results_cell rfl _ _ ⟨w.heap.size + 1 + 1, 0, none⟩ true rfl (HC4.out.kept hg9 (fun e => by injection e with e; omega)).cell, rfl, ?_⟩
            exact (HBz.out _ HS9.out).trans (belowK_b (w := w5) (by have := hBz.size; omega) _ D _ _ (by omega) (HKz.out _ HS9.out) rfl rfl)
        case stop0 =>
          rintro D k8 pre W hD ⟨j8, hj8, rfl⟩ (⟨rfl, hst, ⟨-, hSz, h3, h4, h5, h6, h7, h8, h9⟩⟩ | ⟨rfl, hno⟩) hK
          · rw [down_length] at h8 hst
            by_cases hj8e : j8 = n
            · rw [hj8e] at h8
              have hm1 : ((n : Int) == (n : Int)) = true := beq_self_eq_true _
              clear hst hj8e hj8
              by_cases hn0 : n = 0
              · exfalso; omega
              · have hn0' : 0 < n := by omega
                have hWl := h9.size
                have e1 := h6.cell
                have P3 := Lib.hid h3; have P4 := Lib.hid h4; have P5 := Lib.hid h5; have P6 := Lib.hid h6; have P7 := Lib.hid h7; have P8 := Lib.hid h8; have P9 := Lib.hid h9; have HK := Lib.hid hK
                clear h3 h4 h5 h6 h7 h8 h9 hK
                have t5 : True := trivial
                have t6 : True := trivial
                have t7 : True := trivial
                have t8 : True := trivial
                refine wpIn_wide.2 ?_
                go_wp2_with (first
                  | (go_at_call 19; refine (parent_calls _ ls c2 n Hln.out hn0' (by omega) _ P7.out).mono ?_; rintro e w11 ⟨rfl, hb11⟩; have HB11 := Lib.hid hb11; clear hb11)
                  | (have _t := t5; refine wpList_alloc (o := ⟨some 13, _, _, _, _, _⟩) rfl rfl 33 (idc zid).toArray (by kernel_rfl) ?_; intro w12 hb12 hg12 hs12; have Hb12 := Lib.hid hb12; have Hg12 := Lib.hid hg12; clear hb12 hg12 hs12; simp only [Act.put, List.setIfInBounds_toArray, List.set_cons_succ, List.set_cons_zero]; clear t5)
                  | (have _t := t6; refine wpList_store_box rfl 33 _ _ rfl w11.heap.size (idc (idAt ls (n - 1))) rfl rfl (t := 33) Hb12.out (by simp [idc_length, idAt_len P7.out.len (n - 1), zid_len]) (by rw [idc_length, idAt_len P7.out.len (n - 1)]; kernel_rfl) (idc_one _) ?_; intro w13 hb13 hg13 hs13; have HB13 := Lib.hid (HB11.out.trans ((grownBy_below (grownBy_new Hg12.out hg13 (Nat.le_refl _))).mono HB11.out.size)); have Hp13 := Lib.hid hb13; have c13 := (Boxed.below P6.out HB13.out P6.out.lt).cell; clear hb13 hg13 hs13; simp only [Act.put, List.setIfInBounds_toArray, List.set_cons_succ, List.set_cons_zero]; clear t6)
                  | (go_at_call 16; refine (nearest_nil _ _ n (by omega) _).mono ?_; rintro e w14 ⟨rfl, hb14⟩; have HB14 := Lib.hid hb14; clear hb14)
                  | (have _t := t7; refine wpList_alloc (o := ⟨some 15, _, _, _, _, _⟩) rfl rfl 33 (idc zid).toArray (by kernel_rfl) ?_; intro w15 hb15 hg15 hs15; have Hb15 := Lib.hid hb15; have Hg15 := Lib.hid hg15; clear hb15 hg15 hs15; simp only [Act.put, List.setIfInBounds_toArray, List.set_cons_succ, List.set_cons_zero]; clear t7)
                  | (have _t := t8; refine wpList_store_box rfl 33 _ _ rfl w14.heap.size (idc zid) rfl rfl (t := 33) Hb15.out (by simp [idc_length, zid_len]) (by rw [idc_length, zid_len]; kernel_rfl) (idc_one _) ?_; intro w16 hb16 hg16 hs16; have HB16' := Lib.hid (HB14.out.trans ((grownBy_below (grownBy_new Hg15.out hg16 (Nat.le_refl _))).mono HB14.out.size)); have HB16 := Lib.hid (HB13.out.trans (HB16'.out.mono HB13.out.size)); have Hp16 := Lib.hid (Hp13.out.below HB16'.out Hp13.out.lt); clear hb16 hg16 hs16; simp only [Act.put, List.setIfInBounds_toArray, List.set_cons_succ, List.set_cons_zero]; clear t8))
                have hsz16 : W.heap.size ≤ w16.heap.size := HB16.out.size
                obtain ⟨j9, hj9⟩ : ∃ j9, n - 1 = j9 := ⟨_, rfl⟩
                have hj9I : (n : Int) - 1 = (j9 : Int) := by omega
                have q1 : (0 : Int) < n := by omega
                have q2 : (j9 : Int) < n := by omega
                have q3 : (0 : Int) ≤ j9 := by omega
                have Q7 := Lib.hid (P7.out.below HB16.out)
                obtain ⟨ad4, x4, hA4, hx4, -, hat4⟩ := Q7.out.at_ (k := j9) (by rw [Hln.out]; omega)
                cases hA4
                have hxx4 : idAt ls j9 = x4 := by unfold idAt; rw [hx4]; rfl
                have hlo := H82.out _ rfl
                have hs11 : W.heap.size ≤ w11.heap.size := HB11.out.size
                have hadb : ad2.block < w5.heap.size := hAs (by rintro rfl; have := Hln.out; simp at this; omega) _ rfl
                rw [← hxx4, ← hj9] at hat4
                have hx32 := idAt_len Q7.out.len (n - 1)
                have L10 := Lib.hid (Boxed.below P8.out HB16.out P8.out.lt).cell
                have L2 := Lib.hid (Boxed.below P3.out HB16.out P3.out.lt).cell
                have L3 := Lib.hid (Boxed.below P4.out HB16.out P4.out.lt).cell
                have L4 := Lib.hid (Boxed.below P5.out HB16.out P5.out.lt)
                have L5 := Lib.hid (Boxed.below P6.out HB16.out P6.out.lt).cell
                have LP := Lib.hid (Hp16.out.id_at hx32)
                have LO := Lib.hid hat4
                have Hj9 := Lib.hid hj9
                rw [hj9] at *
                clear hat4 hx4 hxx4 hj9
                refine Code.wp_mono norm_mono ?_
                refine wp_region_held_drew (S := fun W' => NlS w16 (w.heap.size + 1 + 1) W') (by kernel_rfl) ⟨rfl, rfl, rfl, rfl, fun _ _ => rfl⟩ (fun hS => ?_)
                refine wpAnyH_take (i := 0) rfl (by kernel_rfl) (by kernel_rfl) (by kernel_rfl) (fun _ _ _ h => h) (yieldsIf_load_one (by rfl) _ _ rfl _ rfl _ Try.isAgg3 (fun W' h => h.cell (by simp; omega) L10.out)) hS ?rest42
                simp only [List.getElem_toArray, List.getElem_cons_succ, List.getElem_cons_zero, Act.put, List.setIfInBounds_toArray, List.set_cons_succ, List.set_cons_zero]
                refine wpAnyH_take (i := 1) rfl (by kernel_rfl) (by kernel_rfl) (by kernel_rfl) (fun _ _ _ h => h) (yieldsIf_load_one (by rfl) _ _ rfl _ rfl _ Try.isAgg22 (fun W' h => h.cell (by simp; omega) L2.out)) hS ?rest43
                simp only [List.getElem_toArray, List.getElem_cons_succ, List.getElem_cons_zero, Act.put, List.setIfInBounds_toArray, List.set_cons_succ, List.set_cons_zero]
                refine wpAnyH_take (i := 2) (v := ?v44) rfl (by kernel_rfl) (by kernel_rfl) (by kernel_rfl) (fun _ _ _ h => h) (Or.inl ⟨by rfl, ?hy44⟩) hS ?rest44
                case hy44 => (intro W hW; go_simp; first | with_reducible rfl | (go_bits; first | with_reducible rfl | (go_simp; with_reducible rfl)))
                simp only [List.getElem_toArray, List.getElem_cons_succ, List.getElem_cons_zero, Act.put, List.setIfInBounds_toArray, List.set_cons_succ, List.set_cons_zero]
                refine wpAnyH_take (i := 3) (v := ?v45) rfl (by kernel_rfl) (by kernel_rfl) (by kernel_rfl) (fun _ _ _ h => h) (Or.inl ⟨by rfl, ?hy45⟩) hS ?rest45
                case hy45 => (intro W hW; go_simp; first | with_reducible rfl | (go_bits; first | with_reducible rfl | (go_simp; with_reducible rfl)))
                simp only [List.getElem_toArray, List.getElem_cons_succ, List.getElem_cons_zero, Act.put, List.setIfInBounds_toArray, List.set_cons_succ, List.set_cons_zero]
                refine wpAnyH_take (i := 4) (v := ?v46) rfl (by kernel_rfl) (by kernel_rfl) (by kernel_rfl) (fun _ _ _ h => h) (Or.inl ⟨by rfl, ?hy46⟩) hS ?rest46
                case hy46 => (intro W hW; go_simp; first | with_reducible rfl | (go_bits; first | with_reducible rfl | (go_simp; with_reducible rfl)))
                simp only [List.getElem_toArray, List.getElem_cons_succ, List.getElem_cons_zero, Act.put, List.setIfInBounds_toArray, List.set_cons_succ, List.set_cons_zero]
                refine wpAnyH_take (i := 5) (v := undef) rfl (by kernel_rfl) (by kernel_rfl) (by kernel_rfl) (fun _ _ _ h => h) (Or.inr ⟨by rfl, rfl⟩) hS ?rest47
                simp only [List.getElem_toArray, List.getElem_cons_succ, List.getElem_cons_zero, Act.put, List.setIfInBounds_toArray, List.set_cons_succ, List.set_cons_zero]
                refine wpAnyH_take (i := 6) (v := undef) rfl (by kernel_rfl) (by kernel_rfl) (by kernel_rfl) (fun _ _ _ h => h) (Or.inr ⟨by rfl, rfl⟩) hS ?rest48
                simp only [List.getElem_toArray, List.getElem_cons_succ, List.getElem_cons_zero, Act.put, List.setIfInBounds_toArray, List.set_cons_succ, List.set_cons_zero]
                refine wpAnyH_take (i := 7) (v := undef) rfl (by kernel_rfl) (by kernel_rfl) (by kernel_rfl) (fun _ _ _ h => h) (Or.inr ⟨by rfl, rfl⟩) hS ?rest49
                simp only [List.getElem_toArray, List.getElem_cons_succ, List.getElem_cons_zero, Act.put, List.setIfInBounds_toArray, List.set_cons_succ, List.set_cons_zero]
                refine wpAnyH_take (i := 8) (v := ?v50) rfl (by kernel_rfl) (by kernel_rfl) (by kernel_rfl) (fun _ _ _ h => h) (Or.inl ⟨by rfl, ?hy50⟩) hS ?rest50
                case hy50 => (intro W hW; go_simp; first | with_reducible rfl | (go_bits; first | with_reducible rfl | (go_simp; with_reducible rfl)))
                simp only [List.getElem_toArray, List.getElem_cons_succ, List.getElem_cons_zero, Act.put, List.setIfInBounds_toArray, List.set_cons_succ, List.set_cons_zero]
                refine wpAnyH_take (i := 9) (v := ?v51) rfl (by kernel_rfl) (by kernel_rfl) (by kernel_rfl) (fun _ _ _ h => h) (Or.inl ⟨by rfl, ?hy51⟩) hS ?rest51
                case hy51 => (intro W hW; go_simp; first | with_reducible rfl | (go_bits; first | with_reducible rfl | (go_simp; with_reducible rfl)))
                simp only [List.getElem_toArray, List.getElem_cons_succ, List.getElem_cons_zero, Act.put, List.setIfInBounds_toArray, List.set_cons_succ, List.set_cons_zero]
                refine wpAnyH_take (i := 10) (v := ?v52) rfl (by kernel_rfl) (by kernel_rfl) (by kernel_rfl) (fun _ _ _ h => h) (Or.inl ⟨by rfl, ?hy52⟩) hS ?rest52
                case hy52 => (intro W hW; go_simp; first | with_reducible rfl | (go_bits; first | with_reducible rfl | (go_simp; with_reducible rfl)))
                simp only [List.getElem_toArray, List.getElem_cons_succ, List.getElem_cons_zero, Act.put, List.setIfInBounds_toArray, List.set_cons_succ, List.set_cons_zero]
                refine wpAnyH_take (i := 11) rfl (by kernel_rfl) (by kernel_rfl) (by kernel_rfl) (fun _ _ _ h => h) (yieldsIf_load_one (by rfl) _ _ rfl _ rfl _ Try.isAgg22 (fun W' h => h.cell (by simp; omega) L2.out)) hS ?rest53
                simp only [List.getElem_toArray, List.getElem_cons_succ, List.getElem_cons_zero, Act.put, List.setIfInBounds_toArray, List.set_cons_succ, List.set_cons_zero]
                refine wpAnyH_take (i := 12) (v := ?v54) rfl (by kernel_rfl) (by kernel_rfl) (by kernel_rfl) (fun _ _ _ h => h) (Or.inl ⟨by rfl, ?hy54⟩) hS ?rest54
                case hy54 => (intro W hW; go_simp; first | with_reducible rfl | (go_bits; first | with_reducible rfl | (go_simp; with_reducible rfl)))
                simp only [List.getElem_toArray, List.getElem_cons_succ, List.getElem_cons_zero, Act.put, List.setIfInBounds_toArray, List.set_cons_succ, List.set_cons_zero]
                refine wpAnyH_take (i := 13) (v := ?v55) rfl (by kernel_rfl) (by kernel_rfl) (by kernel_rfl) (fun _ _ _ h => h) (Or.inl ⟨by rfl, ?hy55⟩) hS ?rest55
                case hy55 => (intro W hW; go_simp; first | with_reducible rfl | (go_bits; first | with_reducible rfl | (go_simp; with_reducible rfl)))
                simp only [List.getElem_toArray, List.getElem_cons_succ, List.getElem_cons_zero, Act.put, List.setIfInBounds_toArray, List.set_cons_succ, List.set_cons_zero]
                refine wpAnyH_take (i := 14) (v := ?v56) rfl (by kernel_rfl) (by kernel_rfl) (by kernel_rfl) (fun _ _ _ h => h) (Or.inl ⟨by rfl, ?hy56⟩) hS ?rest56
                case hy56 => (intro W hW; go_simp; first | with_reducible rfl | (go_bits; first | with_reducible rfl | (go_simp; with_reducible rfl)))
                simp only [List.getElem_toArray, List.getElem_cons_succ, List.getElem_cons_zero, Act.put, List.setIfInBounds_toArray, List.set_cons_succ, List.set_cons_zero]
                refine wpAnyH_take (i := 15) (v := ?v57) rfl (by kernel_rfl) (by kernel_rfl) (by kernel_rfl) (fun _ _ _ h => h) (Or.inl ⟨by rfl, ?hy57⟩) hS ?rest57
                case hy57 => (intro W hW; go_simp; first | with_reducible rfl | (go_bits; first | with_reducible rfl | (go_simp; with_reducible rfl)))
                simp only [List.getElem_toArray, List.getElem_cons_succ, List.getElem_cons_zero, Act.put, List.setIfInBounds_toArray, List.set_cons_succ, List.set_cons_zero]
                refine wpAnyH_take (i := 16) (v := ?v58) rfl (by kernel_rfl) (by kernel_rfl) (by kernel_rfl) (fun _ _ _ h => h) (Or.inl ⟨by rfl, ?hy58⟩) hS ?rest58
                case hy58 => (intro W hW; go_simp; first | with_reducible rfl | (go_bits; first | with_reducible rfl | (go_simp; with_reducible rfl)))
                simp only [List.getElem_toArray, List.getElem_cons_succ, List.getElem_cons_zero, Act.put, List.setIfInBounds_toArray, List.set_cons_succ, List.set_cons_zero]
                refine wpAnyH_take (i := 17) (v := ?v59) rfl (by kernel_rfl) (by kernel_rfl) (by kernel_rfl) (fun _ _ _ h => h) (Or.inl ⟨by rfl, ?hy59⟩) hS ?rest59
                case hy59 => (intro W hW; go_simp; first | with_reducible rfl | (go_bits; first | with_reducible rfl | (go_simp; with_reducible rfl)))
                simp only [List.getElem_toArray, List.getElem_cons_succ, List.getElem_cons_zero, Act.put, List.setIfInBounds_toArray, List.set_cons_succ, List.set_cons_zero]
                refine wpAnyH_take (i := 18) (v := ?v60) rfl (by kernel_rfl) (by kernel_rfl) (by kernel_rfl) (fun _ _ _ h => h) (Or.inl ⟨by rfl, ?hy60⟩) hS ?rest60
                case hy60 => (intro W hW; go_simp; first | with_reducible rfl | (go_bits; first | with_reducible rfl | (go_simp; with_reducible rfl)))
                simp only [List.getElem_toArray, List.getElem_cons_succ, List.getElem_cons_zero, Act.put, List.setIfInBounds_toArray, List.set_cons_succ, List.set_cons_zero]
                refine wpAnyH_take (i := 19) (v := ?v61) rfl (by kernel_rfl) (by kernel_rfl) (by kernel_rfl) (fun _ _ _ h => h) (Or.inl ⟨by rfl, ?hy61⟩) hS ?rest61
                case hy61 => (intro W hW; go_simp; first | with_reducible rfl | (go_bits; first | with_reducible rfl | (go_simp; with_reducible rfl)))
                simp only [List.getElem_toArray, List.getElem_cons_succ, List.getElem_cons_zero, Act.put, List.setIfInBounds_toArray, List.set_cons_succ, List.set_cons_zero]
                refine wpAnyH_take (i := 20) rfl (by kernel_rfl) (by kernel_rfl) (by kernel_rfl) (fun _ _ _ h => h) (yieldsIf_load_id (by rfl) _ _ rfl _ rfl _ (by kernel_rfl) (fun W' h => h.id_at (by simp; omega) LP.out)) hS ?rest62
                simp only [List.getElem_toArray, List.getElem_cons_succ, List.getElem_cons_zero, Act.put, List.setIfInBounds_toArray, List.set_cons_succ, List.set_cons_zero]
                refine wpAnyH_take (i := 21) rfl (by kernel_rfl) (by kernel_rfl) (by kernel_rfl) (fun _ _ _ h => h) (yieldsIf_load_one (by rfl) _ _ rfl _ rfl _ Try.isAgg24 (fun W' h => h.cell (by simp; omega) L5.out)) hS ?rest63
                simp only [List.getElem_toArray, List.getElem_cons_succ, List.getElem_cons_zero, Act.put, List.setIfInBounds_toArray, List.set_cons_succ, List.set_cons_zero]
                refine wpAnyH_take (i := 22) rfl (by kernel_rfl) (by kernel_rfl) (by kernel_rfl) (fun _ _ _ h => h) (yieldsIf_load_one (by rfl) _ _ rfl _ rfl _ Try.isAgg22 (fun W' h => h.cell (by simp; omega) L2.out)) hS ?rest64
                simp only [List.getElem_toArray, List.getElem_cons_succ, List.getElem_cons_zero, Act.put, List.setIfInBounds_toArray, List.set_cons_succ, List.set_cons_zero]
                refine wpAnyH_take (i := 23) (v := ?v65) rfl (by kernel_rfl) (by kernel_rfl) (by kernel_rfl) (fun _ _ _ h => h) (Or.inl ⟨by rfl, ?hy65⟩) hS ?rest65
                case hy65 => (intro W hW; go_simp; first | with_reducible rfl | (go_bits; first | with_reducible rfl | (go_simp; with_reducible rfl)))
                simp only [List.getElem_toArray, List.getElem_cons_succ, List.getElem_cons_zero, Act.put, List.setIfInBounds_toArray, List.set_cons_succ, List.set_cons_zero]
                refine wpAnyH_take (i := 24) (v := ?v66) rfl (by kernel_rfl) (by kernel_rfl) (by kernel_rfl) (fun _ _ _ h => h) (Or.inl ⟨by rfl, ?hy66⟩) hS ?rest66
                case hy66 => (intro W hW; go_simp; first | with_reducible rfl | (go_bits; first | with_reducible rfl | (go_simp; with_reducible rfl)))
                simp only [List.getElem_toArray, List.getElem_cons_succ, List.getElem_cons_zero, Act.put, List.setIfInBounds_toArray, List.set_cons_succ, List.set_cons_zero]
                refine wpAnyH_take (i := 25) (v := ?v67) rfl (by kernel_rfl) (by kernel_rfl) (by kernel_rfl) (fun _ _ _ h => h) (Or.inl ⟨by rfl, ?hy67⟩) hS ?rest67
                case hy67 => (intro W hW; go_simp; first | with_reducible rfl | (go_bits; first | with_reducible rfl | (go_simp; with_reducible rfl)))
                simp only [List.getElem_toArray, List.getElem_cons_succ, List.getElem_cons_zero, Act.put, List.setIfInBounds_toArray, List.set_cons_succ, List.set_cons_zero]
                refine wpAnyH_take (i := 26) rfl (by kernel_rfl) (by kernel_rfl) (by kernel_rfl) (fun _ _ _ h => h) (yieldsIf_load_id (by rfl) _ _ rfl _ rfl _ (by kernel_rfl) (fun W' h => h.id_at (by rw [Addr.add_block]; omega) LO.out)) hS ?rest68
                simp only [List.getElem_toArray, List.getElem_cons_succ, List.getElem_cons_zero, Act.put, List.setIfInBounds_toArray, List.set_cons_succ, List.set_cons_zero]
                refine wpAnyH_take (i := 27) (v := ?v69) rfl (by kernel_rfl) (by kernel_rfl) (by kernel_rfl) (fun _ _ _ h => h) (Or.inl ⟨by rfl, ?hy69⟩) hS ?rest69
                case hy69 => (intro W hW; go_simp; first | with_reducible rfl | (go_bits; first | with_reducible rfl | (go_simp; with_reducible rfl)))
                simp only [List.getElem_toArray, List.getElem_cons_succ, List.getElem_cons_zero, Act.put, List.setIfInBounds_toArray, List.set_cons_succ, List.set_cons_zero]
                refine wpAnyH_take (i := 28) (v := ?v70) rfl (by kernel_rfl) (by kernel_rfl) (by kernel_rfl) (fun _ _ _ h => h) (Or.inl ⟨by rfl, ?hy70⟩) hS ?rest70
                case hy70 => (intro W hW; go_simp; first | with_reducible rfl | (go_bits; first | with_reducible rfl | (go_simp; with_reducible rfl)))
                simp only [List.getElem_toArray, List.getElem_cons_succ, List.getElem_cons_zero, Act.put, List.setIfInBounds_toArray, List.set_cons_succ, List.set_cons_zero]
                refine wpAnyH_take (i := 29) (v := ?v71) rfl (by kernel_rfl) (by kernel_rfl) (by kernel_rfl) (fun _ _ _ h => h) (Or.inl ⟨by rfl, ?hy71⟩) hS ?rest71
                case hy71 => (intro W hW; go_simp; first | with_reducible rfl | (go_bits; first | with_reducible rfl | (go_simp; with_reducible rfl)))
                simp only [List.getElem_toArray, List.getElem_cons_succ, List.getElem_cons_zero, Act.put, List.setIfInBounds_toArray, List.set_cons_succ, List.set_cons_zero]
                refine wpAnyH_take (i := 30) (v := ?v72) rfl (by kernel_rfl) (by kernel_rfl) (by kernel_rfl) (fun _ _ _ h => h) (Or.inl ⟨by rfl, ?hy72⟩) hS ?rest72
                case hy72 => (intro W hW; go_simp; first | with_reducible rfl | (go_bits; first | with_reducible rfl | (go_simp; with_reducible rfl)))
                simp only [List.getElem_toArray, List.getElem_cons_succ, List.getElem_cons_zero, Act.put, List.setIfInBounds_toArray, List.set_cons_succ, List.set_cons_zero]
                refine wpAnyH_take (i := 31) (v := ?v73) rfl (by kernel_rfl) (by kernel_rfl) (by kernel_rfl) (fun _ _ _ h => h) (Or.inl ⟨by rfl, ?hy73⟩) hS ?rest73
                case hy73 => (intro W hW; go_simp; first | with_reducible rfl | (go_bits; first | with_reducible rfl | (go_simp; with_reducible rfl)))
                simp only [List.getElem_toArray, List.getElem_cons_succ, List.getElem_cons_zero, Act.put, List.setIfInBounds_toArray, List.set_cons_succ, List.set_cons_zero]
                refine wpAnyH_take (i := 32) rfl (by kernel_rfl) (by kernel_rfl) (by kernel_rfl) (fun _ _ _ h => h) (yieldsIf_load_one (by rfl) _ _ rfl _ rfl _ Try.isAgg22 (fun W' h => h.cell (by simp; omega) L2.out)) hS ?rest74
                simp only [List.getElem_toArray, List.getElem_cons_succ, List.getElem_cons_zero, Act.put, List.setIfInBounds_toArray, List.set_cons_succ, List.set_cons_zero]
                refine wpAnyH_take (i := 33) (v := ?v75) rfl (by kernel_rfl) (by kernel_rfl) (by kernel_rfl) (fun _ _ _ h => h) (Or.inl ⟨by rfl, ?hy75⟩) hS ?rest75
                case hy75 => (intro W hW; go_simp; first | with_reducible rfl | (go_bits; first | with_reducible rfl | (go_simp; with_reducible rfl)))
                simp only [List.getElem_toArray, List.getElem_cons_succ, List.getElem_cons_zero, Act.put, List.setIfInBounds_toArray, List.set_cons_succ, List.set_cons_zero]
                refine wpAnyH_take (i := 34) (v := ?v76) rfl (by kernel_rfl) (by kernel_rfl) (by kernel_rfl) (fun _ _ _ h => h) (Or.inl ⟨by rfl, ?hy76⟩) hS ?rest76
                case hy76 => (intro W hW; go_simp; first | with_reducible rfl | (go_bits; first | with_reducible rfl | (go_simp; with_reducible rfl)))
                simp only [List.getElem_toArray, List.getElem_cons_succ, List.getElem_cons_zero, Act.put, List.setIfInBounds_toArray, List.set_cons_succ, List.set_cons_zero]
                refine wpAnyH_take (i := 35) (v := ?v77) rfl (by kernel_rfl) (by kernel_rfl) (by kernel_rfl) (fun _ _ _ h => h) (Or.inl ⟨by rfl, ?hy77⟩) hS ?rest77
                case hy77 => (intro W hW; go_simp; first | with_reducible rfl | (go_bits; first | with_reducible rfl | (go_simp; with_reducible rfl)))
                simp only [List.getElem_toArray, List.getElem_cons_succ, List.getElem_cons_zero, Act.put, List.setIfInBounds_toArray, List.set_cons_succ, List.set_cons_zero]
                refine wpAnyH_take (i := 36) (v := ?v78) rfl (by kernel_rfl) (by kernel_rfl) (by kernel_rfl) (fun _ _ _ h => h) (Or.inl ⟨by rfl, ?hy78⟩) hS ?rest78
                case hy78 => (intro W hW; go_simp; first | with_reducible rfl | (go_bits; first | with_reducible rfl | (go_simp; with_reducible rfl)))
                simp only [List.getElem_toArray, List.getElem_cons_succ, List.getElem_cons_zero, Act.put, List.setIfInBounds_toArray, List.set_cons_succ, List.set_cons_zero]
                refine wpAnyH_take (i := 37) (v := ?v79) rfl (by kernel_rfl) (by kernel_rfl) (by kernel_rfl) (fun _ _ _ h => h) (Or.inl ⟨by rfl, ?hy79⟩) hS ?rest79
                case hy79 => (intro W hW; go_simp; first | with_reducible rfl | (go_bits; first | with_reducible rfl | (go_simp; with_reducible rfl)))
                simp only [List.getElem_toArray, List.getElem_cons_succ, List.getElem_cons_zero, Act.put, List.setIfInBounds_toArray, List.set_cons_succ, List.set_cons_zero]
                refine wpAnyH_take (i := 38) (v := ?v80) rfl (by kernel_rfl) (by kernel_rfl) (by kernel_rfl) (fun _ _ _ h => h) (Or.inl ⟨by rfl, ?hy80⟩) hS ?rest80
                case hy80 => (intro W hW; go_simp; first | with_reducible rfl | (go_bits; first | with_reducible rfl | (go_simp; with_reducible rfl)))
                simp only [List.getElem_toArray, List.getElem_cons_succ, List.getElem_cons_zero, Act.put, List.setIfInBounds_toArray, List.set_cons_succ, List.set_cons_zero]
                refine wpAnyH_take (i := 39) (v := ?v81) rfl (by kernel_rfl) (by kernel_rfl) (by kernel_rfl) (fun _ _ _ h => h) (Or.inl ⟨by rfl, ?hy81⟩) hS ?rest81
                case hy81 => (intro W hW; go_simp; first | with_reducible rfl | (go_bits; first | with_reducible rfl | (go_simp; with_reducible rfl)))
                simp only [List.getElem_toArray, List.getElem_cons_succ, List.getElem_cons_zero, Act.put, List.setIfInBounds_toArray, List.set_cons_succ, List.set_cons_zero]
                refine wpAnyH_ready (rs := [40]) (by kernel_rfl) (by simp) ?_
                refine AllReadyH.cons rfl (fun K hK => ?_) AllReadyH.nil
                rw [if_pos (by rfl)]
                simp only [List.getElem_toArray, List.getElem_cons_succ, List.getElem_cons_zero]
                have hc4 := L4.out.cell; have hf4 := L4.out.frozen
                have hDlt : D < W.heap.size := (Array.getElem?_eq_some_iff.1 HK.out).1
                have HKz : Hid (∀ W', NlS w16 (w.heap.size + 1 + 1) W' → W'.heap[D]? = some (.deferred (some []))) := Lib.hid (fun W' h => (h.rest D (by omega)).trans ((HB16.out.block D hDlt).trans HK.out))
                have HBz : Hid (∀ W', NlS w16 (w.heap.size + 1 + 1) W' → Below w.heap.size w W') := Lib.hid (fun W' h => (P9.out.trans (HB16.out.mono hWl)).trans ⟨h.os, h.tape, h.output, Nat.le_of_eq h.size.symm, fun k hk => h.rest k (by omega)⟩)
                have HC4 : Hid (Boxed (w16.drew.setCell ⟨w.heap.size + 1 + 1, 0, none⟩ (.bool true)) (w.heap.size + 1 + 1) 4 (.bool true)) := Lib.hid (Boxed.set (W := w16.drew) (.bool true) L4.out)
                go_simp
                refine hK.out _ _ ?s82 (fun hS => ?_)
                case s82 => exact (hS.set (.bool true))
                clear hK K
                clear hc4 hf4
                refine wpAnyH_done (by kernel_rfl) ?_ _
                refine norm_intro ?_
                have HS9 := Lib.hid hS
                clear hS
                go_wp2_with fail
                refine ⟨by simp, .inl ⟨_, _, rfl, run_takeDeferred (HKz.out _ HS9.out), ?_⟩⟩
                have hg9 := grownBy_putObj' (w16.drew.setCell ⟨w.heap.size + 1 + 1, 0, none⟩ (.bool true)) D (.deferred none)
                refine ⟨.bool true, results_cell rfl _ _ ⟨w.heap.size + 1 + 1, 0, none⟩ true rfl (HC4.out.kept hg9 (fun e => by injection e with e; omega)).cell, rfl, ?_⟩
                exact (HBz.out _ HS9.out).trans (belowK_b (w := w5) (by have := hBz.size; omega) _ D _ _ (by omega) (HKz.out _ HS9.out) rfl rfl)
            · have hm1 : ((j8 : Int) == (n : Int)) = false := by rw [beq_eq_false_iff_ne]; omega
              have hm2 : ((j8 : Int) == stop) = true := by rw [beq_iff_eq]; exact hst
              clear hst
              by_cases hn0 : n = 0
              · exfalso; omega
              · have hn0' : 0 < n := by omega
                have hWl := h9.size
                have e1 := h6.cell
                have P3 := Lib.hid h3; have P4 := Lib.hid h4; have P5 := Lib.hid h5; have P6 := Lib.hid h6; have P7 := Lib.hid h7; have P8 := Lib.hid h8; have P9 := Lib.hid h9; have HK := Lib.hid hK
                clear h3 h4 h5 h6 h7 h8 h9 hK
                have t5 : True := trivial
                have t6 : True := trivial
                have t7 : True := trivial
                have t8 : True := trivial
                refine wpIn_wide.2 ?_
                go_wp2_with (first
                  | (go_at_call 19; refine (parent_calls _ ls c2 n Hln.out hn0' (by omega) _ P7.out).mono ?_; rintro e w11 ⟨rfl, hb11⟩; have HB11 := Lib.hid hb11; clear hb11)
                  | (have _t := t5; refine wpList_alloc (o := ⟨some 13, _, _, _, _, _⟩) rfl rfl 33 (idc zid).toArray (by kernel_rfl) ?_; intro w12 hb12 hg12 hs12; have Hb12 := Lib.hid hb12; have Hg12 := Lib.hid hg12; clear hb12 hg12 hs12; simp only [Act.put, List.setIfInBounds_toArray, List.set_cons_succ, List.set_cons_zero]; clear t5)
                  | (have _t := t6; refine wpList_store_box rfl 33 _ _ rfl w11.heap.size (idc (idAt ls (n - 1))) rfl rfl (t := 33) Hb12.out (by simp [idc_length, idAt_len P7.out.len (n - 1), zid_len]) (by rw [idc_length, idAt_len P7.out.len (n - 1)]; kernel_rfl) (idc_one _) ?_; intro w13 hb13 hg13 hs13; have HB13 := Lib.hid (HB11.out.trans ((grownBy_below (grownBy_new Hg12.out hg13 (Nat.le_refl _))).mono HB11.out.size)); have Hp13 := Lib.hid hb13; have c13 := (Boxed.below P6.out HB13.out P6.out.lt).cell; clear hb13 hg13 hs13; simp only [Act.put, List.setIfInBounds_toArray, List.set_cons_succ, List.set_cons_zero]; clear t6)
                  | (go_at_call 16; refine (nearest_nil _ _ n (by omega) _).mono ?_; rintro e w14 ⟨rfl, hb14⟩; have HB14 := Lib.hid hb14; clear hb14)
                  | (have _t := t7; refine wpList_alloc (o := ⟨some 15, _, _, _, _, _⟩) rfl rfl 33 (idc zid).toArray (by kernel_rfl) ?_; intro w15 hb15 hg15 hs15; have Hb15 := Lib.hid hb15; have Hg15 := Lib.hid hg15; clear hb15 hg15 hs15; simp only [Act.put, List.setIfInBounds_toArray, List.set_cons_succ, List.set_cons_zero]; clear t7)
                  | (have _t := t8; refine wpList_store_box rfl 33 _ _ rfl w14.heap.size (idc zid) rfl rfl (t := 33) Hb15.out (by simp [idc_length, zid_len]) (by rw [idc_length, zid_len]; kernel_rfl) (idc_one _) ?_; intro w16 hb16 hg16 hs16; have HB16' := Lib.hid (HB14.out.trans ((grownBy_below (grownBy_new Hg15.out hg16 (Nat.le_refl _))).mono HB14.out.size)); have HB16 := Lib.hid (HB13.out.trans (HB16'.out.mono HB13.out.size)); have Hp16 := Lib.hid (Hp13.out.below HB16'.out Hp13.out.lt); clear hb16 hg16 hs16; simp only [Act.put, List.setIfInBounds_toArray, List.set_cons_succ, List.set_cons_zero]; clear t8))
                have hsz16 : W.heap.size ≤ w16.heap.size := HB16.out.size
                obtain ⟨j9, hj9⟩ : ∃ j9, n - 1 = j9 := ⟨_, rfl⟩
                have hj9I : (n : Int) - 1 = (j9 : Int) := by omega
                have q1 : (0 : Int) < n := by omega
                have q2 : (j9 : Int) < n := by omega
                have q3 : (0 : Int) ≤ j9 := by omega
                have Q7 := Lib.hid (P7.out.below HB16.out)
                obtain ⟨ad4, x4, hA4, hx4, -, hat4⟩ := Q7.out.at_ (k := j9) (by rw [Hln.out]; omega)
                cases hA4
                have hxx4 : idAt ls j9 = x4 := by unfold idAt; rw [hx4]; rfl
                have hlo := H82.out _ rfl
                have hs11 : W.heap.size ≤ w11.heap.size := HB11.out.size
                have hadb : ad2.block < w5.heap.size := hAs (by rintro rfl; have := Hln.out; simp at this; omega) _ rfl
                rw [← hxx4, ← hj9] at hat4
                have hx32 := idAt_len Q7.out.len (n - 1)
                have L10 := Lib.hid (Boxed.below P8.out HB16.out P8.out.lt).cell
                have L2 := Lib.hid (Boxed.below P3.out HB16.out P3.out.lt).cell
                have L3 := Lib.hid (Boxed.below P4.out HB16.out P4.out.lt).cell
                have L4 := Lib.hid (Boxed.below P5.out HB16.out P5.out.lt)
                have L5 := Lib.hid (Boxed.below P6.out HB16.out P6.out.lt).cell
                have LP := Lib.hid (Hp16.out.id_at hx32)
                have LO := Lib.hid hat4
                have Hj9 := Lib.hid hj9
                rw [hj9] at *
                clear hat4 hx4 hxx4 hj9
                refine Code.wp_mono norm_mono ?_
                refine wp_region_held_drew (S := fun W' => NlS w16 (w.heap.size + 1 + 1) W') (by kernel_rfl) ⟨rfl, rfl, rfl, rfl, fun _ _ => rfl⟩ (fun hS => ?_)
                refine wpAnyH_take (i := 0) rfl (by kernel_rfl) (by kernel_rfl) (by kernel_rfl) (fun _ _ _ h => h) (yieldsIf_load_one (by rfl) _ _ rfl _ rfl _ Try.isAgg3 (fun W' h => h.cell (by simp; omega) L10.out)) hS ?rest83
                simp only [List.getElem_toArray, List.getElem_cons_succ, List.getElem_cons_zero, Act.put, List.setIfInBounds_toArray, List.set_cons_succ, List.set_cons_zero]
                refine wpAnyH_take (i := 1) rfl (by kernel_rfl) (by kernel_rfl) (by kernel_rfl) (fun _ _ _ h => h) (yieldsIf_load_one (by rfl) _ _ rfl _ rfl _ Try.isAgg22 (fun W' h => h.cell (by simp; omega) L2.out)) hS ?rest84
                simp only [List.getElem_toArray, List.getElem_cons_succ, List.getElem_cons_zero, Act.put, List.setIfInBounds_toArray, List.set_cons_succ, List.set_cons_zero]
                refine wpAnyH_take (i := 2) (v := ?v85) rfl (by kernel_rfl) (by kernel_rfl) (by kernel_rfl) (fun _ _ _ h => h) (Or.inl ⟨by rfl, ?hy85⟩) hS ?rest85
                case hy85 => (intro W hW; go_simp; first | with_reducible rfl | (go_bits; first | with_reducible rfl | (go_simp; with_reducible rfl)))
                simp only [List.getElem_toArray, List.getElem_cons_succ, List.getElem_cons_zero, Act.put, List.setIfInBounds_toArray, List.set_cons_succ, List.set_cons_zero]
                refine wpAnyH_take (i := 3) (v := ?v86) rfl (by kernel_rfl) (by kernel_rfl) (by kernel_rfl) (fun _ _ _ h => h) (Or.inl ⟨by rfl, ?hy86⟩) hS ?rest86
                case hy86 => (intro W hW; go_simp; first | with_reducible rfl | (go_bits; first | with_reducible rfl | (go_simp; with_reducible rfl)))
                simp only [List.getElem_toArray, List.getElem_cons_succ, List.getElem_cons_zero, Act.put, List.setIfInBounds_toArray, List.set_cons_succ, List.set_cons_zero]
                refine wpAnyH_take (i := 4) (v := ?v87) rfl (by kernel_rfl) (by kernel_rfl) (by kernel_rfl) (fun _ _ _ h => h) (Or.inl ⟨by rfl, ?hy87⟩) hS ?rest87
                case hy87 => (intro W hW; go_simp; first | with_reducible rfl | (go_bits; first | with_reducible rfl | (go_simp; with_reducible rfl)))
                simp only [List.getElem_toArray, List.getElem_cons_succ, List.getElem_cons_zero, Act.put, List.setIfInBounds_toArray, List.set_cons_succ, List.set_cons_zero]
                refine wpAnyH_take (i := 5) rfl (by kernel_rfl) (by kernel_rfl) (by kernel_rfl) (fun _ _ _ h => h) (yieldsIf_load_one (by rfl) _ _ rfl _ rfl _ Try.isAgg3 (fun W' h => h.cell (by simp; omega) L10.out)) hS ?rest88
                simp only [List.getElem_toArray, List.getElem_cons_succ, List.getElem_cons_zero, Act.put, List.setIfInBounds_toArray, List.set_cons_succ, List.set_cons_zero]
                refine wpAnyH_take (i := 6) rfl (by kernel_rfl) (by kernel_rfl) (by kernel_rfl) (fun _ _ _ h => h) (yieldsIf_load_one (by rfl) _ _ rfl _ rfl _ Try.isAgg3 (fun W' h => h.cell (by simp) L3.out)) hS ?rest89
                simp only [List.getElem_toArray, List.getElem_cons_succ, List.getElem_cons_zero, Act.put, List.setIfInBounds_toArray, List.set_cons_succ, List.set_cons_zero]
                refine wpAnyH_take (i := 7) (v := ?v90) rfl (by kernel_rfl) (by kernel_rfl) (by kernel_rfl) (fun _ _ _ h => h) (Or.inl ⟨by rfl, ?hy90⟩) hS ?rest90
                case hy90 => (intro W hW; go_simp; first | with_reducible rfl | (go_bits; first | with_reducible rfl | (go_simp; with_reducible rfl)))
                simp only [List.getElem_toArray, List.getElem_cons_succ, List.getElem_cons_zero, Act.put, List.setIfInBounds_toArray, List.set_cons_succ, List.set_cons_zero]
                refine wpAnyH_take (i := 8) (v := ?v91) rfl (by kernel_rfl) (by kernel_rfl) (by kernel_rfl) (fun _ _ _ h => h) (Or.inl ⟨by rfl, ?hy91⟩) hS ?rest91
                case hy91 => (intro W hW; go_simp; first | with_reducible rfl | (go_bits; first | with_reducible rfl | (go_simp; with_reducible rfl)))
                simp only [List.getElem_toArray, List.getElem_cons_succ, List.getElem_cons_zero, Act.put, List.setIfInBounds_toArray, List.set_cons_succ, List.set_cons_zero]
                refine wpAnyH_take (i := 9) (v := ?v92) rfl (by kernel_rfl) (by kernel_rfl) (by kernel_rfl) (fun _ _ _ h => h) (Or.inl ⟨by rfl, ?hy92⟩) hS ?rest92
                case hy92 => (intro W hW; go_simp; first | with_reducible rfl | (go_bits; first | with_reducible rfl | (go_simp; with_reducible rfl)))
                simp only [List.getElem_toArray, List.getElem_cons_succ, List.getElem_cons_zero, Act.put, List.setIfInBounds_toArray, List.set_cons_succ, List.set_cons_zero]
                refine wpAnyH_take (i := 10) (v := ?v93) rfl (by kernel_rfl) (by kernel_rfl) (by kernel_rfl) (fun _ _ _ h => h) (Or.inl ⟨by rfl, ?hy93⟩) hS ?rest93
                case hy93 => (intro W hW; go_simp; first | with_reducible rfl | (go_bits; first | with_reducible rfl | (go_simp; with_reducible rfl)))
                simp only [List.getElem_toArray, List.getElem_cons_succ, List.getElem_cons_zero, Act.put, List.setIfInBounds_toArray, List.set_cons_succ, List.set_cons_zero]
                refine wpAnyH_take (i := 11) rfl (by kernel_rfl) (by kernel_rfl) (by kernel_rfl) (fun _ _ _ h => h) (yieldsIf_load_one (by rfl) _ _ rfl _ rfl _ Try.isAgg22 (fun W' h => h.cell (by simp; omega) L2.out)) hS ?rest94
                simp only [List.getElem_toArray, List.getElem_cons_succ, List.getElem_cons_zero, Act.put, List.setIfInBounds_toArray, List.set_cons_succ, List.set_cons_zero]
                refine wpAnyH_take (i := 12) (v := ?v95) rfl (by kernel_rfl) (by kernel_rfl) (by kernel_rfl) (fun _ _ _ h => h) (Or.inl ⟨by rfl, ?hy95⟩) hS ?rest95
                case hy95 => (intro W hW; go_simp; first | with_reducible rfl | (go_bits; first | with_reducible rfl | (go_simp; with_reducible rfl)))
                simp only [List.getElem_toArray, List.getElem_cons_succ, List.getElem_cons_zero, Act.put, List.setIfInBounds_toArray, List.set_cons_succ, List.set_cons_zero]
                refine wpAnyH_take (i := 13) (v := ?v96) rfl (by kernel_rfl) (by kernel_rfl) (by kernel_rfl) (fun _ _ _ h => h) (Or.inl ⟨by rfl, ?hy96⟩) hS ?rest96
                case hy96 => (intro W hW; go_simp; first | with_reducible rfl | (go_bits; first | with_reducible rfl | (go_simp; with_reducible rfl)))
                simp only [List.getElem_toArray, List.getElem_cons_succ, List.getElem_cons_zero, Act.put, List.setIfInBounds_toArray, List.set_cons_succ, List.set_cons_zero]
                refine wpAnyH_take (i := 14) (v := ?v97) rfl (by kernel_rfl) (by kernel_rfl) (by kernel_rfl) (fun _ _ _ h => h) (Or.inl ⟨by rfl, ?hy97⟩) hS ?rest97
                case hy97 => (intro W hW; go_simp; first | with_reducible rfl | (go_bits; first | with_reducible rfl | (go_simp; with_reducible rfl)))
                simp only [List.getElem_toArray, List.getElem_cons_succ, List.getElem_cons_zero, Act.put, List.setIfInBounds_toArray, List.set_cons_succ, List.set_cons_zero]
                refine wpAnyH_take (i := 15) (v := ?v98) rfl (by kernel_rfl) (by kernel_rfl) (by kernel_rfl) (fun _ _ _ h => h) (Or.inl ⟨by rfl, ?hy98⟩) hS ?rest98
                case hy98 => (intro W hW; go_simp; first | with_reducible rfl | (go_bits; first | with_reducible rfl | (go_simp; with_reducible rfl)))
                simp only [List.getElem_toArray, List.getElem_cons_succ, List.getElem_cons_zero, Act.put, List.setIfInBounds_toArray, List.set_cons_succ, List.set_cons_zero]
                refine wpAnyH_take (i := 16) (v := ?v99) rfl (by kernel_rfl) (by kernel_rfl) (by kernel_rfl) (fun _ _ _ h => h) (Or.inl ⟨by rfl, ?hy99⟩) hS ?rest99
                case hy99 => (intro W hW; go_simp; first | with_reducible rfl | (go_bits; first | with_reducible rfl | (go_simp; with_reducible rfl)))
                simp only [List.getElem_toArray, List.getElem_cons_succ, List.getElem_cons_zero, Act.put, List.setIfInBounds_toArray, List.set_cons_succ, List.set_cons_zero]
                refine wpAnyH_take (i := 17) (v := ?v100) rfl (by kernel_rfl) (by kernel_rfl) (by kernel_rfl) (fun _ _ _ h => h) (Or.inl ⟨by rfl, ?hy100⟩) hS ?rest100
                case hy100 => (intro W hW; go_simp; first | with_reducible rfl | (go_bits; first | with_reducible rfl | (go_simp; with_reducible rfl)))
                simp only [List.getElem_toArray, List.getElem_cons_succ, List.getElem_cons_zero, Act.put, List.setIfInBounds_toArray, List.set_cons_succ, List.set_cons_zero]
                refine wpAnyH_take (i := 18) (v := ?v101) rfl (by kernel_rfl) (by kernel_rfl) (by kernel_rfl) (fun _ _ _ h => h) (Or.inl ⟨by rfl, ?hy101⟩) hS ?rest101
                case hy101 => (intro W hW; go_simp; first | with_reducible rfl | (go_bits; first | with_reducible rfl | (go_simp; with_reducible rfl)))
                simp only [List.getElem_toArray, List.getElem_cons_succ, List.getElem_cons_zero, Act.put, List.setIfInBounds_toArray, List.set_cons_succ, List.set_cons_zero]
                refine wpAnyH_take (i := 19) (v := ?v102) rfl (by kernel_rfl) (by kernel_rfl) (by kernel_rfl) (fun _ _ _ h => h) (Or.inl ⟨by rfl, ?hy102⟩) hS ?rest102
                case hy102 => (intro W hW; go_simp; first | with_reducible rfl | (go_bits; first | with_reducible rfl | (go_simp; with_reducible rfl)))
                simp only [List.getElem_toArray, List.getElem_cons_succ, List.getElem_cons_zero, Act.put, List.setIfInBounds_toArray, List.set_cons_succ, List.set_cons_zero]
                refine wpAnyH_take (i := 20) rfl (by kernel_rfl) (by kernel_rfl) (by kernel_rfl) (fun _ _ _ h => h) (yieldsIf_load_id (by rfl) _ _ rfl _ rfl _ (by kernel_rfl) (fun W' h => h.id_at (by simp; omega) LP.out)) hS ?rest103
                simp only [List.getElem_toArray, List.getElem_cons_succ, List.getElem_cons_zero, Act.put, List.setIfInBounds_toArray, List.set_cons_succ, List.set_cons_zero]
                refine wpAnyH_take (i := 21) rfl (by kernel_rfl) (by kernel_rfl) (by kernel_rfl) (fun _ _ _ h => h) (yieldsIf_load_one (by rfl) _ _ rfl _ rfl _ Try.isAgg24 (fun W' h => h.cell (by simp; omega) L5.out)) hS ?rest104
                simp only [List.getElem_toArray, List.getElem_cons_succ, List.getElem_cons_zero, Act.put, List.setIfInBounds_toArray, List.set_cons_succ, List.set_cons_zero]
                refine wpAnyH_take (i := 22) rfl (by kernel_rfl) (by kernel_rfl) (by kernel_rfl) (fun _ _ _ h => h) (yieldsIf_load_one (by rfl) _ _ rfl _ rfl _ Try.isAgg22 (fun W' h => h.cell (by simp; omega) L2.out)) hS ?rest105
                simp only [List.getElem_toArray, List.getElem_cons_succ, List.getElem_cons_zero, Act.put, List.setIfInBounds_toArray, List.set_cons_succ, List.set_cons_zero]
                refine wpAnyH_take (i := 23) (v := ?v106) rfl (by kernel_rfl) (by kernel_rfl) (by kernel_rfl) (fun _ _ _ h => h) (Or.inl ⟨by rfl, ?hy106⟩) hS ?rest106
                case hy106 => (intro W hW; go_simp; first | with_reducible rfl | (go_bits; first | with_reducible rfl | (go_simp; with_reducible rfl)))
                simp only [List.getElem_toArray, List.getElem_cons_succ, List.getElem_cons_zero, Act.put, List.setIfInBounds_toArray, List.set_cons_succ, List.set_cons_zero]
                refine wpAnyH_take (i := 24) (v := ?v107) rfl (by kernel_rfl) (by kernel_rfl) (by kernel_rfl) (fun _ _ _ h => h) (Or.inl ⟨by rfl, ?hy107⟩) hS ?rest107
                case hy107 => (intro W hW; go_simp; first | with_reducible rfl | (go_bits; first | with_reducible rfl | (go_simp; with_reducible rfl)))
                simp only [List.getElem_toArray, List.getElem_cons_succ, List.getElem_cons_zero, Act.put, List.setIfInBounds_toArray, List.set_cons_succ, List.set_cons_zero]
                refine wpAnyH_take (i := 25) (v := ?v108) rfl (by kernel_rfl) (by kernel_rfl) (by kernel_rfl) (fun _ _ _ h => h) (Or.inl ⟨by rfl, ?hy108⟩) hS ?rest108
                case hy108 => (intro W hW; go_simp; first | with_reducible rfl | (go_bits; first | with_reducible rfl | (go_simp; with_reducible rfl)))
                simp only [List.getElem_toArray, List.getElem_cons_succ, List.getElem_cons_zero, Act.put, List.setIfInBounds_toArray, List.set_cons_succ, List.set_cons_zero]
                refine wpAnyH_take (i := 26) rfl (by kernel_rfl) (by kernel_rfl) (by kernel_rfl) (fun _ _ _ h => h) (yieldsIf_load_id (by rfl) _ _ rfl _ rfl _ (by kernel_rfl) (fun W' h => h.id_at (by rw [Addr.add_block]; omega) LO.out)) hS ?rest109
                simp only [List.getElem_toArray, List.getElem_cons_succ, List.getElem_cons_zero, Act.put, List.setIfInBounds_toArray, List.set_cons_succ, List.set_cons_zero]
                refine wpAnyH_take (i := 27) (v := ?v110) rfl (by kernel_rfl) (by kernel_rfl) (by kernel_rfl) (fun _ _ _ h => h) (Or.inl ⟨by rfl, ?hy110⟩) hS ?rest110
                case hy110 => (intro W hW; go_simp; first | with_reducible rfl | (go_bits; first | with_reducible rfl | (go_simp; with_reducible rfl)))
                simp only [List.getElem_toArray, List.getElem_cons_succ, List.getElem_cons_zero, Act.put, List.setIfInBounds_toArray, List.set_cons_succ, List.set_cons_zero]
                refine wpAnyH_take (i := 28) (v := ?v111) rfl (by kernel_rfl) (by kernel_rfl) (by kernel_rfl) (fun _ _ _ h => h) (Or.inl ⟨by rfl, ?hy111⟩) hS ?rest111
                case hy111 => (intro W hW; go_simp; first | with_reducible rfl | (go_bits; first | with_reducible rfl | (go_simp; with_reducible rfl)))
                simp only [List.getElem_toArray, List.getElem_cons_succ, List.getElem_cons_zero, Act.put, List.setIfInBounds_toArray, List.set_cons_succ, List.set_cons_zero]
                refine wpAnyH_take (i := 29) (v := ?v112) rfl (by kernel_rfl) (by kernel_rfl) (by kernel_rfl) (fun _ _ _ h => h) (Or.inl ⟨by rfl, ?hy112⟩) hS ?rest112
                case hy112 => (intro W hW; go_simp; first | with_reducible rfl | (go_bits; first | with_reducible rfl | (go_simp; with_reducible rfl)))
                simp only [List.getElem_toArray, List.getElem_cons_succ, List.getElem_cons_zero, Act.put, List.setIfInBounds_toArray, List.set_cons_succ, List.set_cons_zero]
                refine wpAnyH_take (i := 30) (v := ?v113) rfl (by kernel_rfl) (by kernel_rfl) (by kernel_rfl) (fun _ _ _ h => h) (Or.inl ⟨by rfl, ?hy113⟩) hS ?rest113
                case hy113 => (intro W hW; go_simp; first | with_reducible rfl | (go_bits; first | with_reducible rfl | (go_simp; with_reducible rfl)))
                simp only [List.getElem_toArray, List.getElem_cons_succ, List.getElem_cons_zero, Act.put, List.setIfInBounds_toArray, List.set_cons_succ, List.set_cons_zero]
                refine wpAnyH_take (i := 31) (v := ?v114) rfl (by kernel_rfl) (by kernel_rfl) (by kernel_rfl) (fun _ _ _ h => h) (Or.inl ⟨by rfl, ?hy114⟩) hS ?rest114
                case hy114 => (intro W hW; go_simp; first | with_reducible rfl | (go_bits; first | with_reducible rfl | (go_simp; with_reducible rfl)))
                simp only [List.getElem_toArray, List.getElem_cons_succ, List.getElem_cons_zero, Act.put, List.setIfInBounds_toArray, List.set_cons_succ, List.set_cons_zero]
                refine wpAnyH_take (i := 32) rfl (by kernel_rfl) (by kernel_rfl) (by kernel_rfl) (fun _ _ _ h => h) (yieldsIf_load_one (by rfl) _ _ rfl _ rfl _ Try.isAgg22 (fun W' h => h.cell (by simp; omega) L2.out)) hS ?rest115
                simp only [List.getElem_toArray, List.getElem_cons_succ, List.getElem_cons_zero, Act.put, List.setIfInBounds_toArray, List.set_cons_succ, List.set_cons_zero]
                refine wpAnyH_take (i := 33) (v := ?v116) rfl (by kernel_rfl) (by kernel_rfl) (by kernel_rfl) (fun _ _ _ h => h) (Or.inl ⟨by rfl, ?hy116⟩) hS ?rest116
                case hy116 => (intro W hW; go_simp; first | with_reducible rfl | (go_bits; first | with_reducible rfl | (go_simp; with_reducible rfl)))
                simp only [List.getElem_toArray, List.getElem_cons_succ, List.getElem_cons_zero, Act.put, List.setIfInBounds_toArray, List.set_cons_succ, List.set_cons_zero]
                refine wpAnyH_take (i := 34) (v := ?v117) rfl (by kernel_rfl) (by kernel_rfl) (by kernel_rfl) (fun _ _ _ h => h) (Or.inl ⟨by rfl, ?hy117⟩) hS ?rest117
                case hy117 => (intro W hW; go_simp; first | with_reducible rfl | (go_bits; first | with_reducible rfl | (go_simp; with_reducible rfl)))
                simp only [List.getElem_toArray, List.getElem_cons_succ, List.getElem_cons_zero, Act.put, List.setIfInBounds_toArray, List.set_cons_succ, List.set_cons_zero]
                refine wpAnyH_take (i := 35) (v := ?v118) rfl (by kernel_rfl) (by kernel_rfl) (by kernel_rfl) (fun _ _ _ h => h) (Or.inl ⟨by rfl, ?hy118⟩) hS ?rest118
                case hy118 => (intro W hW; go_simp; first | with_reducible rfl | (go_bits; first | with_reducible rfl | (go_simp; with_reducible rfl)))
                simp only [List.getElem_toArray, List.getElem_cons_succ, List.getElem_cons_zero, Act.put, List.setIfInBounds_toArray, List.set_cons_succ, List.set_cons_zero]
                refine wpAnyH_take (i := 36) (v := ?v119) rfl (by kernel_rfl) (by kernel_rfl) (by kernel_rfl) (fun _ _ _ h => h) (Or.inl ⟨by rfl, ?hy119⟩) hS ?rest119
                case hy119 => (intro W hW; go_simp; first | with_reducible rfl | (go_bits; first | with_reducible rfl | (go_simp; with_reducible rfl)))
                simp only [List.getElem_toArray, List.getElem_cons_succ, List.getElem_cons_zero, Act.put, List.setIfInBounds_toArray, List.set_cons_succ, List.set_cons_zero]
                refine wpAnyH_take (i := 37) (v := ?v120) rfl (by kernel_rfl) (by kernel_rfl) (by kernel_rfl) (fun _ _ _ h => h) (Or.inl ⟨by rfl, ?hy120⟩) hS ?rest120
                case hy120 => (intro W hW; go_simp; first | with_reducible rfl | (go_bits; first | with_reducible rfl | (go_simp; with_reducible rfl)))
                simp only [List.getElem_toArray, List.getElem_cons_succ, List.getElem_cons_zero, Act.put, List.setIfInBounds_toArray, List.set_cons_succ, List.set_cons_zero]
                refine wpAnyH_take (i := 38) (v := ?v121) rfl (by kernel_rfl) (by kernel_rfl) (by kernel_rfl) (fun _ _ _ h => h) (Or.inl ⟨by rfl, ?hy121⟩) hS ?rest121
                case hy121 => (intro W hW; go_simp; first | with_reducible rfl | (go_bits; first | with_reducible rfl | (go_simp; with_reducible rfl)))
                simp only [List.getElem_toArray, List.getElem_cons_succ, List.getElem_cons_zero, Act.put, List.setIfInBounds_toArray, List.set_cons_succ, List.set_cons_zero]
                refine wpAnyH_take (i := 39) (v := ?v122) rfl (by kernel_rfl) (by kernel_rfl) (by kernel_rfl) (fun _ _ _ h => h) (Or.inl ⟨by rfl, ?hy122⟩) hS ?rest122
                case hy122 => (intro W hW; go_simp; first | with_reducible rfl | (go_bits; first | with_reducible rfl | (go_simp; with_reducible rfl)))
                simp only [List.getElem_toArray, List.getElem_cons_succ, List.getElem_cons_zero, Act.put, List.setIfInBounds_toArray, List.set_cons_succ, List.set_cons_zero]
                refine wpAnyH_ready (rs := [40]) (by kernel_rfl) (by simp) ?_
                refine AllReadyH.cons rfl (fun K hK => ?_) AllReadyH.nil
                rw [if_pos (by rfl)]
                simp only [List.getElem_toArray, List.getElem_cons_succ, List.getElem_cons_zero]
                have hc4 := L4.out.cell; have hf4 := L4.out.frozen
                have hDlt : D < W.heap.size := (Array.getElem?_eq_some_iff.1 HK.out).1
                have HKz : Hid (∀ W', NlS w16 (w.heap.size + 1 + 1) W' → W'.heap[D]? = some (.deferred (some []))) := Lib.hid (fun W' h => (h.rest D (by omega)).trans ((HB16.out.block D hDlt).trans HK.out))
                have HBz : Hid (∀ W', NlS w16 (w.heap.size + 1 + 1) W' → Below w.heap.size w W') := Lib.hid (fun W' h => (P9.out.trans (HB16.out.mono hWl)).trans ⟨h.os, h.tape, h.output, Nat.le_of_eq h.size.symm, fun k hk => h.rest k (by omega)⟩)
                have HC4 : Hid (Boxed (w16.drew.setCell ⟨w.heap.size + 1 + 1, 0, none⟩ (.bool true)) (w.heap.size + 1 + 1) 4 (.bool true)) := Lib.hid (Boxed.set (W := w16.drew) (.bool true) L4.out)
                go_simp
                refine hK.out _ _ ?s123 (fun hS => ?_)
                case s123 => exact (hS.set (.bool true))
                clear hK K
                clear hc4 hf4
                refine wpAnyH_done (by kernel_rfl) ?_ _
                refine norm_intro ?_
                have HS9 := Lib.hid hS
                clear hS
                go_wp2_with fail
                refine ⟨by simp, .inl ⟨_, _, rfl, run_takeDeferred (HKz.out _ HS9.out), ?_⟩⟩
                have hg9 := grownBy_putObj' (w16.drew.setCell ⟨w.heap.size + 1 + 1, 0, none⟩ (.bool true)) D (.deferred none)
                refine ⟨.bool true, results_cell rfl _ _ ⟨w.heap.size + 1 + 1, 0, none⟩ true rfl (HC4.out.kept hg9 (fun e => by injection e with e; omega)).cell, rfl, ?_⟩
                exact (HBz.out _ HS9.out).trans (belowK_b (w := w5) (by have := hBz.size; omega) _ D _ _ (by omega) (HKz.out _ HS9.out) rfl rfl)
          · exact absurd ⟨j8, hj8, rfl⟩ hno
      · have ht : ((b.toNat : Int) % 2 == 0) = true := by rw [beq_iff_eq]; omega
        have hfalse : accB (idAt ls (n - 1 - k)) = false := by rw [Hj.out, Hxid.out, Hacc.out, decide_eq_false hodd]
        have Hf := Lib.hid hfalse
        clear hodd hfalse
        have HjI := Lib.hid (show (j : Int) - 1 = (n : Int) - 1 - ((k + 1 : Nat) : Int) by omega)
        clear hjI
        go_wp2_with fail
        go_round
        case rel => exact ⟨k + 1, by omega, congrArg (Value.int .i64) HjI.out, fun i hi => by
          rcases Nat.lt_or_ge i k with h | h
          · exact Hall.out i h
          · rw [show i = k by omega]; exact Hf.out⟩
        case measure => simp [intOf]
    · obtain rfl : k = n := by omega
      have i1 : ¬ (0 : Int) ≤ (k : Int) - 1 - k := by omega
      have i2 : (k : Int) - 1 - k = -1 := by omega
      have hN := near_none Hall.out
      rw [HV.out] at hN
      obtain ⟨e1, e2, e3⟩ := near_inj hN
      subst e1 e2 e3
      rw [i2]
      clear i1 i2 hN
      go_wp2_with fail
      refine wp_region_quiet_lit (by kernel_rfl) (by kernel_rfl) ?_
      repeat (go_big_quiet_step (fail))
      refine wpQuiet_nil ?_
      intro _ hw'
      obtain ⟨nq, hw''⟩ := hw'
      subst hw''
      obtain ⟨W6, hW6⟩ : ∃ W6, w5.drewN nq = W6 := ⟨_, rfl⟩
      have hB56 : Below w5.heap.size w5 W6 := by rw [← hW6]; exact below_drewN1 _ _ _
      have hs6 : W6.heap.size = w5.heap.size := by rw [← hW6]; rfl
      have J0 := Lib.hid (Boxed.below G0.out hB56 G0.out.lt); have J1 := Lib.hid (Boxed.below G1.out hB56 G1.out.lt); have J2 := Lib.hid (Boxed.below G2.out hB56 G2.out.lt); have Jo := Lib.hid (Boxed.below Go.out hB56 Go.out.lt)
      have JO := Lib.hid (GO.out.below hB56)
      have JB := Lib.hid (hB5.out.trans (hB56.mono hB5.out.size))
      have Jid := Lib.hid (Blk.below Gid.out hB56 Gid.out.lt)
      have c0 := cell_one Jo.out.cell
      have d0 := J0.out.cell
      rw [hW6]
      clear hW6 hB56 G0 G1 G2 Go GO hB5 Gid g0 GL
      have t3 : True := trivial
      have t4 : True := trivial
      go_wp2_with (first
        | (have _t := t3; refine wpList_load_idg (by rfl) 33 _ rfl _ rfl _ (by kernel_rfl) (Jid.out.id_at hX) ?_; simp only [Act.put, List.setIfInBounds_toArray, List.set_cons_succ, List.set_cons_zero]; clear t3)
        | (have _t := t4; refine wpList_valueg (by rfl) rfl (idv zid) (by kernel_rfl) ?_; simp only [Act.put, List.setIfInBounds_toArray, List.set_cons_succ, List.set_cons_zero]; clear t4)
        | (go_at_call 18; refine (ancestors_calls _ _ _ _).mono ?_; rintro e w' ⟨rfl, hw⟩; have hw2 := hw.symm; clear hw; subst hw2))
      have hAs : ls ≠ [] → ∀ ad', A2 = some ad' → ad'.block < w5.heap.size := fun h0 ad' e => by
        rw [← hs6]
        refine JO.out.row.lt (fun h => h0 ?_) ad' e
        have := flat_length ls JO.out.len
        rw [h] at this
        simp at this
        exact List.eq_nil_of_length_eq_zero (by omega)
      have b0 := (J0.out.alloc (.cells #[.int .i64 0] 3)).alloc (.cells #[Value.slice A2 k c2] 24)
      have b1 := (J1.out.alloc (.cells #[.int .i64 0] 3)).alloc (.cells #[Value.slice A2 k c2] 24)
      have b2 := (J2.out.alloc (.cells #[.int .i64 0] 3)).alloc (.cells #[Value.slice A2 k c2] 24)
      have bo := (Jo.out.alloc (.cells #[.int .i64 0] 3)).alloc (.cells #[Value.slice A2 k c2] 24)
      have bn := (Boxed.new W6 3 (.int .i64 0)).alloc (.cells #[Value.slice A2 k c2] 24)
      have bi := Boxed.new (W6.alloc (.cells #[.int .i64 0] 3)) 24 (Value.slice A2 k c2)
      have hO0 := (JO.out.alloc (.cells #[.int .i64 0] 3)).alloc (.cells #[Value.slice A2 k c2] 24)
      have hBz : Below w.heap.size w ((W6.alloc (.cells #[.int .i64 0] 3)).alloc (.cells #[Value.slice A2 k c2] 24)) := (JB.out.alloc JB.out.size _).alloc (Nat.le_trans JB.out.size (by simp)) _
      obtain ⟨W0, hW0⟩ : ∃ W0, (W6.alloc (.cells #[.int .i64 0] 3)).alloc (.cells #[Value.slice A2 k c2] 24) = W0 := ⟨_, rfl⟩
      have hs0 : W0.heap.size = w5.heap.size + 2 := by rw [← hW0]; simp [hs6]
      simp only [World.size_alloc, hs6] at bi bn
      rw [hW0] at b0 b1 b2 bo bn bi hO0 hBz ⊢
      clear hW0 J0 J1 J2 Jo JO JB c0 d0
      refine (wpIn_wide (n := 12)).1 ?_
      refine wpIn_rangeFunc_ownH (F := Fence.wide) (n := 12) rfl (by decide) (gf := 31) (lb := #[.pointer (some ⟨w5.heap.size + 1, 0, none⟩)]) rfl trivial (enters_of Try.func31 (by kernel_rfl) rfl)
        (anc_stops Fence.wide 11 trivial rfl (by omega) (w5.heap.size + 1) w5.heap.size k c2 (A2) ls Hln.out (by omega) W0 (by omega) (by omega) bi.cell hO0 hAs) KpA.trans ?hKb1 (Below.refl _ _) (fun _ => rfl)
        (NlI ls (A2) w W0.heap.size w2.heap.size w5.heap.size k stop (Value.slice A k c) (Value.slice A2 k c2)) (NlX ls (A2) w W0.heap.size w2.heap.size w5.heap.size k stop (Value.slice A k c) (Value.slice A2 k c2)) ?hI1 ?hIx1 ?h01 (fun x a' W => ∃ Bx, W0.heap.size ≤ Bx ∧ Blk W Bx 33 (idc (idAt ls x)).toArray ∧ a' = { tmps := #[Value.slice A k c, Value.int IntKind.i64 stop, Value.pointer (some { block := w.heap.size, off := 0 }), Value.pointer (some { block := w.heap.size + 1, off := 0 }), Value.pointer (some { block := w.heap.size + 1 + 1, off := 0 }), Value.pointer (some { block := w2.heap.size, off := 0 }), Value.pointer (some { block := w3.heap.size, off := 0 }), Value.int IntKind.i64 ↑k, Value.bool false, Value.int IntKind.i64 (-1), Value.pointer (some { block := w5.heap.size, off := 0 }), .int .i64 (x : Int), .pointer (some ⟨Bx, 0, none⟩), undef, undef, undef, undef, undef, Value.bool true, Value.bool false, Value.bool false, Value.slice A k c, Value.int IntKind.i64 ↑k, Value.bool (decide ((60 : Int) < (k : Int))), Value.bool (decide ((60 : Int) < (k : Int))), undef, Value.slice A k c, Value.slice A2 k c2, Value.tuple #[idv zid, Value.int IntKind.i64 ↑k, Value.bool false], Value.slice A2 k c2, Value.tuple #[idv zid, Value.int IntKind.i64 ↑k, Value.bool false], idv zid, Value.int IntKind.i64 ↑k, Value.bool false, Value.slice A k c, Value.int IntKind.i64 ↑k, Value.int IntKind.i64 (↑k - 1), Value.int IntKind.i64 (-1), Value.bool false, Value.bool false, undef, undef, undef, undef, undef, undef, undef, Value.bool false, u48, u49, Value.int IntKind.i64 (-1), Value.bool false, Value.bool false, undef, undef, undef, undef, undef, undef, undef, undef, undef, undef, undef, undef, undef, undef, undef, undef, undef, undef, undef, Value.bool false, Value.int IntKind.i64 (-1), Value.bool true, Value.bool true, Value.bool false, Value.bool false, idv zid, idv zid, Value.bool false, Value.bool false, Value.bool false, Value.int IntKind.i64 ↑k, Value.slice A k c, Value.int IntKind.i64 ↑k, Value.bool false, Value.bool false, Value.bool false, Value.slice A2 k c2, Value.func (Fn.func 31) #[] #[Value.pointer (some { block := w5.heap.size + 1, off := 0 })], .int .i64 (x : Int), idv (idAt ls x), undef, undef, undef, undef, undef, undef, undef, undef, undef, undef, undef, undef, undef, undef, undef, undef, undef, undef, undef, undef, undef, undef, undef, undef, undef, undef, undef, undef, undef, undef, undef, undef, undef, undef, undef, undef, undef, undef, undef, undef, undef, undef, undef, undef, undef, undef, undef, undef, undef, undef, undef, undef, undef, undef, undef, undef, undef, undef, undef, undef, undef, undef, undef, undef, undef, undef, undef, undef, undef, undef, undef], defers := [] }) ?hAx1 ?assign1 ?body1 ?done1 ?stop1
      case hKb1 =>
        intro W l o o' hl' ho hc hwk
        exact ⟨belowK_b (w := w5) (Nat.le_refl _) W l o o' (by omega) ho hc hwk, fun v hv => cell_kept hv (grownBy_putObj' W l o') (fun r e => by cases e; exact ⟨o, ho, hc⟩)⟩
      case hI1 => exact NlI.own (by omega) (by omega) (by omega) hBz.size
      case hIx1 => exact NlX.own (by omega) (by omega) (by omega) hBz.size
      case h01 => exact ⟨⟨0, Nat.zero_le _, rfl⟩, Nat.le_refl _, b0, b1, b2, bo, hO0, bn, hBz⟩
      case hAx1 =>
        rintro x a' s W W' row ⟨Bx, h1, h2, h3⟩ hg hr
        refine ⟨Bx, h1, h2.grown hg (fun e => ?_), h3⟩
        obtain ⟨_, o, ho, hc⟩ := hr Bx e.symm
        rw [show W.heap[Bx]? = _ from h2] at ho
        injection ho with ho
        subst ho
        cases hc
      case assign1 =>
        rintro l pre x W K hi hK
        rw [show encA ls x = #[.int .i64 (x : Int), idv (idAt ls x)] from rfl]
        simp only [frame_two, List.setIfInBounds_toArray, List.set_cons_succ, List.set_cons_zero]
        have hx32 := idAt_len hO0.len x
        have hWs : w5.heap.size ≤ W.heap.size := Nat.le_trans (by omega) hi.2.1
        gi_upto_region 15 with (fail)
        refine round_list (by kernel_rfl) ?_
        refine wpList_alloc (o := ⟨some 12, _, _, _, _, _⟩) rfl rfl 33 (idc zid).toArray (by kernel_rfl) ?_
        intro w7 hb7 hg7 hs7
        simp only [Act.put, List.setIfInBounds_toArray, List.set_cons_succ, List.set_cons_zero]
        refine wpList_store_box rfl 33 _ _ rfl W.heap.size (idc (idAt ls x)) rfl rfl (t := 33) hb7 (by simp [idc_length, hx32, zid_len]) (by rw [idc_length, hx32]; kernel_rfl) (idc_one _) ?_
        intro w8 hb8 hg8 hs8
        have hB8 : Below W.heap.size W w8 := grownBy_below (grownBy_new hg7 hg8 (Nat.le_refl _))
        refine wpList_nil ?_
        exact hK _ _ (keepsFrom_below hB8) (kpA_below hWs hB8) (hi.below hB8) ⟨W.heap.size, hi.2.1, hb8, rfl⟩
      case body1 =>
        rintro l pre x a' W hlW ⟨r, hr⟩ hi ⟨Bx, hBx, hbx, rfl⟩ hlen
        dsimp only
        have hx32 := idAt_len hO0.len x
        obtain ⟨⟨k7, hk7, hpre⟩, hSz, h3, h4, h5, h6, h7, h8, h9⟩ := hi
        have hpl : pre.length = k7 := by rw [hpre, down_length]
        have hlt7 : k7 < k := by omega
        rw [hpl] at h8
        have e1 := h3.cell; have e2 := h4.cell; have e3 := h5.cell; have e4 := h6.cell; have e5 := h8.cell
        have f3 := h5.frozen; have f5 := h8.frozen
        have Hpre := Lib.hid hpre; have Hpl := Lib.hid hpl; have HI7 := Lib.hid h7
        have P3 := Lib.hid h3; have P4 := Lib.hid h4; have P5 := Lib.hid h5; have P6 := Lib.hid h6; have P8 := Lib.hid h8; have P9 := Lib.hid h9; have HbX := Lib.hid hbx
        clear hpre hpl h3 h4 h5 h6 h7 h8 h9 hbx
        by_cases hxe : x = k - 1 - k7
        · obtain ⟨ad3, x3, hA3, hx3, -, hat3⟩ := HI7.out.at_ (k := x) (by rw [Hln.out]; omega)
          have hxx3 : idAt ls x = x3 := by unfold idAt; rw [hx3]; rfl
          have hIx : IdAt W ⟨Bx, 0, none⟩ (idAt ls x) := HbX.out.id_at hx32
          rw [← hxx3] at hat3
          cases hA3
          have hC : ∀ W' : World, (∃ k, W' = W.drewN k) → IdAt W' ⟨Bx, 0, none⟩ (idAt ls x) := by rintro W' ⟨_, rfl⟩; exact hIx.drewN _
          have hD : ∀ W' : World, (∃ k, W' = W.drewN k) → IdAt W' (ad3.add (x * 32)) (idAt ls x) := by rintro W' ⟨_, rfl⟩; exact hat3.drewN _
          have HC := Lib.hid hC; have HD := Lib.hid hD; have Hxe := Lib.hid hxe
          have i1 : ((x : Int) != (k : Int) - 1 - k7) = false := by rw [bne_eq_false_iff_eq]; omega
          have i2 : (x : Int) < k := by omega
          have i3 : (0 : Int) ≤ x := by omega
          have hnx := fun nq7 => nl_next (S := W0.heap.size) (q := w2.heap.size) (s := w5.heap.size) (sv0 := Value.slice A k c) (svo := Value.slice (some ad3) k c2) (show NlI ls (some ad3) w W0.heap.size w2.heap.size w5.heap.size k stop (Value.slice A k c) (Value.slice (some ad3) k c2) pre W from ⟨⟨k7, hk7, Hpre.out⟩, hSz, P3.out, P4.out, P5.out, P6.out, HI7.out, by rw [Hpl.out]; exact P8.out, P9.out⟩) (by omega) (by omega) hAs nq7 k7 x Hpl.out ⟨k7 + 1, by omega, by rw [down_succ, Hpre.out, Hxe.out]⟩
          have Hnx := Lib.hid hnx
          clear hC hD hat3 hIx hx3 hxx3 hxe hnx
          gi_upto_region 16 with (fail)
          refine round_quiet (by kernel_rfl) (by kernel_rfl) (by kernel_rfl) ?_
          repeat (first | ((first | refine wpQuiet_load_id rfl _ _ rfl _ rfl _ (by kernel_rfl) HC.out ?_ | refine wpQuiet_load_id rfl _ _ rfl _ rfl _ (by kernel_rfl) HD.out ?_); simp only [Act.put, List.setIfInBounds_toArray, List.set_cons_succ, List.set_cons_zero]) | go_big_quiet_step (fail))
          refine wpQuiet_nil ?_
          intro _ hw'
          obtain ⟨nq7, hw''⟩ := hw'
          subst hw''
          by_cases hstop : (k7 : Int) + 1 = stop
          · have i4 : ((k7 : Int) + 1 == stop) = true := by rw [beq_iff_eq]; exact hstop
            have Hstop := Lib.hid hstop
            clear hstop
            gi_wp2
            have h := Hnx.out nq7
            exact ⟨h.1, .inl ⟨rfl, by rw [List.length_append, Hpl.out]; exact Hstop.out, h.2.2⟩⟩
          · have i4 : ((k7 : Int) + 1 == stop) = false := by rw [beq_eq_false_iff_ne]; exact hstop
            clear hstop
            gi_wp2
            exact Hnx.out nq7
        · have i1 : ((x : Int) != (k : Int) - 1 - k7) = true := by rw [bne_iff_ne]; omega
          gi_upto_region 16 with (fail)
          refine round_quiet (by kernel_rfl) (by kernel_rfl) (by kernel_rfl) ?_
          repeat (go_big_quiet_step (fail))
          refine wpQuiet_nil ?_
          intro _ hw'
          obtain ⟨nq7, hw''⟩ := hw'
          subst hw''
          gi_wp2
          have hk := (KeepsOthers.setCell (W.drewN nq7) ⟨w.heap.size + 1 + 1, 0, none⟩ (.bool false)).from W0.heap.size
          refine ⟨⟨hk.size, fun k o a b c => hk.same k o a b c⟩, .inr ⟨rfl, ?_⟩⟩
          rintro ⟨k', hk', hd⟩
          have hl' := congrArg List.length hd
          rw [List.length_append, down_length, Hpl.out] at hl'
          obtain rfl : k' = k7 + 1 := by simpa using hl'.symm
          rw [down_succ] at hd
          have := (List.append_inj' hd rfl).2
          exact hxe (by simpa using this)
      case done1 =>
        rintro D ys W hD rfl ⟨-, hSz, h3, h4, h5, h6, h7, h8, h9⟩ hK
        rw [down_length] at h8
        have hm1 : ((k : Int) == (k : Int)) = true := beq_self_eq_true _
        by_cases hn0 : k = 0
        · have hz0 : c = c := rfl
          subst hn0
          have hWl := h9.size
          have e1 := h6.cell
          have P3 := Lib.hid h3; have P4 := Lib.hid h4; have P5 := Lib.hid h5; have P6 := Lib.hid h6; have P7 := Lib.hid h7; have P8 := Lib.hid h8; have P9 := Lib.hid h9; have HK := Lib.hid hK
          clear h3 h4 h5 h6 h7 h8 h9 hK
          have t5 : True := trivial
          have t6 : True := trivial
          have t7 : True := trivial
          have t8 : True := trivial
          go_wp2_with (first
            | (go_at_call 19; refine (parent_none _ c2 _).mono ?_; rintro e w11 ⟨rfl, hb11⟩; have HB11 := Lib.hid hb11; clear hb11)
            | (have _t := t5; refine wpList_alloc (o := ⟨some 13, _, _, _, _, _⟩) rfl rfl 33 (idc zid).toArray (by kernel_rfl) ?_; intro w12 hb12 hg12 hs12; have Hb12 := Lib.hid hb12; have Hg12 := Lib.hid hg12; clear hb12 hg12 hs12; simp only [Act.put, List.setIfInBounds_toArray, List.set_cons_succ, List.set_cons_zero]; clear t5)
            | (have _t := t6; refine wpList_store_box rfl 33 _ _ rfl w11.heap.size (idc zid) rfl rfl (t := 33) Hb12.out (by simp [idc_length, zid_len, zid_len]) (by rw [idc_length, zid_len]; kernel_rfl) (idc_one _) ?_; intro w13 hb13 hg13 hs13; have HB13 := Lib.hid (HB11.out.trans ((grownBy_below (grownBy_new Hg12.out hg13 (Nat.le_refl _))).mono HB11.out.size)); have Hp13 := Lib.hid hb13; have c13 := (Boxed.below P6.out HB13.out P6.out.lt).cell; clear hb13 hg13 hs13; simp only [Act.put, List.setIfInBounds_toArray, List.set_cons_succ, List.set_cons_zero]; clear t6)
            | (go_at_call 16; refine (nearest_nil _ _ 0 (by omega) _).mono ?_; rintro e w14 ⟨rfl, hb14⟩; have HB14 := Lib.hid hb14; clear hb14)
            | (have _t := t7; refine wpList_alloc (o := ⟨some 15, _, _, _, _, _⟩) rfl rfl 33 (idc zid).toArray (by kernel_rfl) ?_; intro w15 hb15 hg15 hs15; have Hb15 := Lib.hid hb15; have Hg15 := Lib.hid hg15; clear hb15 hg15 hs15; simp only [Act.put, List.setIfInBounds_toArray, List.set_cons_succ, List.set_cons_zero]; clear t7)
            | (have _t := t8; refine wpList_store_box rfl 33 _ _ rfl w14.heap.size (idc zid) rfl rfl (t := 33) Hb15.out (by simp [idc_length, zid_len]) (by rw [idc_length, zid_len]; kernel_rfl) (idc_one _) ?_; intro w16 hb16 hg16 hs16; have HB16' := Lib.hid (HB14.out.trans ((grownBy_below (grownBy_new Hg15.out hg16 (Nat.le_refl _))).mono HB14.out.size)); have HB16 := Lib.hid (HB13.out.trans (HB16'.out.mono HB13.out.size)); have Hp16 := Lib.hid (Hp13.out.below HB16'.out Hp13.out.lt); clear hb16 hg16 hs16; simp only [Act.put, List.setIfInBounds_toArray, List.set_cons_succ, List.set_cons_zero]; clear t8))
          have hsz16 : W.heap.size ≤ w16.heap.size := HB16.out.size
          have hs11 : W.heap.size ≤ w11.heap.size := HB11.out.size
          have L10 := Lib.hid (Boxed.below P8.out HB16.out P8.out.lt).cell
          have L2 := Lib.hid (Boxed.below P3.out HB16.out P3.out.lt).cell
          have L3 := Lib.hid (Boxed.below P4.out HB16.out P4.out.lt).cell
          have L4 := Lib.hid (Boxed.below P5.out HB16.out P5.out.lt)
          have L5 := Lib.hid (Boxed.below P6.out HB16.out P6.out.lt).cell
          refine Code.wp_mono norm_mono ?_
          refine wp_region_held_drew (S := fun W' => NlS w16 (w.heap.size + 1 + 1) W') (by kernel_rfl) ⟨rfl, rfl, rfl, rfl, fun _ _ => rfl⟩ (fun hS => ?_)
          refine wpAnyH_take (i := 0) rfl (by kernel_rfl) (by kernel_rfl) (by kernel_rfl) (fun _ _ _ h => h) (yieldsIf_load_one (by rfl) _ _ rfl _ rfl _ Try.isAgg3 (fun W' h => h.cell (by simp; omega) L10.out)) hS ?rest124
          simp only [List.getElem_toArray, List.getElem_cons_succ, List.getElem_cons_zero, Act.put, List.setIfInBounds_toArray, List.set_cons_succ, List.set_cons_zero]
          refine wpAnyH_take (i := 1) rfl (by kernel_rfl) (by kernel_rfl) (by kernel_rfl) (fun _ _ _ h => h) (yieldsIf_load_one (by rfl) _ _ rfl _ rfl _ Try.isAgg22 (fun W' h => h.cell (by simp; omega) L2.out)) hS ?rest125
          simp only [List.getElem_toArray, List.getElem_cons_succ, List.getElem_cons_zero, Act.put, List.setIfInBounds_toArray, List.set_cons_succ, List.set_cons_zero]
          refine wpAnyH_take (i := 2) (v := ?v126) rfl (by kernel_rfl) (by kernel_rfl) (by kernel_rfl) (fun _ _ _ h => h) (Or.inl ⟨by rfl, ?hy126⟩) hS ?rest126
          case hy126 => (intro W hW; go_simp; first | with_reducible rfl | (go_bits; first | with_reducible rfl | (go_simp; with_reducible rfl)))
          simp only [List.getElem_toArray, List.getElem_cons_succ, List.getElem_cons_zero, Act.put, List.setIfInBounds_toArray, List.set_cons_succ, List.set_cons_zero]
          refine wpAnyH_take (i := 3) (v := ?v127) rfl (by kernel_rfl) (by kernel_rfl) (by kernel_rfl) (fun _ _ _ h => h) (Or.inl ⟨by rfl, ?hy127⟩) hS ?rest127
          case hy127 => (intro W hW; go_simp; first | with_reducible rfl | (go_bits; first | with_reducible rfl | (go_simp; with_reducible rfl)))
          simp only [List.getElem_toArray, List.getElem_cons_succ, List.getElem_cons_zero, Act.put, List.setIfInBounds_toArray, List.set_cons_succ, List.set_cons_zero]
          refine wpAnyH_take (i := 4) (v := ?v128) rfl (by kernel_rfl) (by kernel_rfl) (by kernel_rfl) (fun _ _ _ h => h) (Or.inl ⟨by rfl, ?hy128⟩) hS ?rest128
          case hy128 => (intro W hW; go_simp; first | with_reducible rfl | (go_bits; first | with_reducible rfl | (go_simp; with_reducible rfl)))
          simp only [List.getElem_toArray, List.getElem_cons_succ, List.getElem_cons_zero, Act.put, List.setIfInBounds_toArray, List.set_cons_succ, List.set_cons_zero]
          refine wpAnyH_take (i := 5) (v := undef) rfl (by kernel_rfl) (by kernel_rfl) (by kernel_rfl) (fun _ _ _ h => h) (Or.inr ⟨by rfl, rfl⟩) hS ?rest129
          simp only [List.getElem_toArray, List.getElem_cons_succ, List.getElem_cons_zero, Act.put, List.setIfInBounds_toArray, List.set_cons_succ, List.set_cons_zero]
          refine wpAnyH_take (i := 6) (v := undef) rfl (by kernel_rfl) (by kernel_rfl) (by kernel_rfl) (fun _ _ _ h => h) (Or.inr ⟨by rfl, rfl⟩) hS ?rest130
          simp only [List.getElem_toArray, List.getElem_cons_succ, List.getElem_cons_zero, Act.put, List.setIfInBounds_toArray, List.set_cons_succ, List.set_cons_zero]
          refine wpAnyH_take (i := 7) (v := undef) rfl (by kernel_rfl) (by kernel_rfl) (by kernel_rfl) (fun _ _ _ h => h) (Or.inr ⟨by rfl, rfl⟩) hS ?rest131
          simp only [List.getElem_toArray, List.getElem_cons_succ, List.getElem_cons_zero, Act.put, List.setIfInBounds_toArray, List.set_cons_succ, List.set_cons_zero]
          refine wpAnyH_take (i := 8) (v := ?v132) rfl (by kernel_rfl) (by kernel_rfl) (by kernel_rfl) (fun _ _ _ h => h) (Or.inl ⟨by rfl, ?hy132⟩) hS ?rest132
          case hy132 => (intro W hW; go_simp; first | with_reducible rfl | (go_bits; first | with_reducible rfl | (go_simp; with_reducible rfl)))
          simp only [List.getElem_toArray, List.getElem_cons_succ, List.getElem_cons_zero, Act.put, List.setIfInBounds_toArray, List.set_cons_succ, List.set_cons_zero]
          refine wpAnyH_take (i := 9) (v := ?v133) rfl (by kernel_rfl) (by kernel_rfl) (by kernel_rfl) (fun _ _ _ h => h) (Or.inl ⟨by rfl, ?hy133⟩) hS ?rest133
          case hy133 => (intro W hW; go_simp; first | with_reducible rfl | (go_bits; first | with_reducible rfl | (go_simp; with_reducible rfl)))
          simp only [List.getElem_toArray, List.getElem_cons_succ, List.getElem_cons_zero, Act.put, List.setIfInBounds_toArray, List.set_cons_succ, List.set_cons_zero]
          refine wpAnyH_take (i := 10) (v := ?v134) rfl (by kernel_rfl) (by kernel_rfl) (by kernel_rfl) (fun _ _ _ h => h) (Or.inl ⟨by rfl, ?hy134⟩) hS ?rest134
          case hy134 => (intro W hW; go_simp; first | with_reducible rfl | (go_bits; first | with_reducible rfl | (go_simp; with_reducible rfl)))
          simp only [List.getElem_toArray, List.getElem_cons_succ, List.getElem_cons_zero, Act.put, List.setIfInBounds_toArray, List.set_cons_succ, List.set_cons_zero]
          refine wpAnyH_take (i := 11) rfl (by kernel_rfl) (by kernel_rfl) (by kernel_rfl) (fun _ _ _ h => h) (yieldsIf_load_one (by rfl) _ _ rfl _ rfl _ Try.isAgg22 (fun W' h => h.cell (by simp; omega) L2.out)) hS ?rest135
          simp only [List.getElem_toArray, List.getElem_cons_succ, List.getElem_cons_zero, Act.put, List.setIfInBounds_toArray, List.set_cons_succ, List.set_cons_zero]
          refine wpAnyH_take (i := 12) (v := ?v136) rfl (by kernel_rfl) (by kernel_rfl) (by kernel_rfl) (fun _ _ _ h => h) (Or.inl ⟨by rfl, ?hy136⟩) hS ?rest136
          case hy136 => (intro W hW; go_simp; first | with_reducible rfl | (go_bits; first | with_reducible rfl | (go_simp; with_reducible rfl)))
          simp only [List.getElem_toArray, List.getElem_cons_succ, List.getElem_cons_zero, Act.put, List.setIfInBounds_toArray, List.set_cons_succ, List.set_cons_zero]
          refine wpAnyH_take (i := 13) (v := ?v137) rfl (by kernel_rfl) (by kernel_rfl) (by kernel_rfl) (fun _ _ _ h => h) (Or.inl ⟨by rfl, ?hy137⟩) hS ?rest137
          case hy137 => (intro W hW; go_simp; first | with_reducible rfl | (go_bits; first | with_reducible rfl | (go_simp; with_reducible rfl)))
          simp only [List.getElem_toArray, List.getElem_cons_succ, List.getElem_cons_zero, Act.put, List.setIfInBounds_toArray, List.set_cons_succ, List.set_cons_zero]
          refine wpAnyH_take (i := 14) (v := ?v138) rfl (by kernel_rfl) (by kernel_rfl) (by kernel_rfl) (fun _ _ _ h => h) (Or.inl ⟨by rfl, ?hy138⟩) hS ?rest138
          case hy138 => (intro W hW; go_simp; first | with_reducible rfl | (go_bits; first | with_reducible rfl | (go_simp; with_reducible rfl)))
          simp only [List.getElem_toArray, List.getElem_cons_succ, List.getElem_cons_zero, Act.put, List.setIfInBounds_toArray, List.set_cons_succ, List.set_cons_zero]
          refine wpAnyH_take (i := 15) (v := ?v139) rfl (by kernel_rfl) (by kernel_rfl) (by kernel_rfl) (fun _ _ _ h => h) (Or.inl ⟨by rfl, ?hy139⟩) hS ?rest139
          case hy139 => (intro W hW; go_simp; first | with_reducible rfl | (go_bits; first | with_reducible rfl | (go_simp; with_reducible rfl)))
          simp only [List.getElem_toArray, List.getElem_cons_succ, List.getElem_cons_zero, Act.put, List.setIfInBounds_toArray, List.set_cons_succ, List.set_cons_zero]
          refine wpAnyH_take (i := 16) (v := ?v140) rfl (by kernel_rfl) (by kernel_rfl) (by kernel_rfl) (fun _ _ _ h => h) (Or.inl ⟨by rfl, ?hy140⟩) hS ?rest140
          case hy140 => (intro W hW; go_simp; first | with_reducible rfl | (go_bits; first | with_reducible rfl | (go_simp; with_reducible rfl)))
          simp only [List.getElem_toArray, List.getElem_cons_succ, List.getElem_cons_zero, Act.put, List.setIfInBounds_toArray, List.set_cons_succ, List.set_cons_zero]
          refine wpAnyH_take (i := 17) (v := ?v141) rfl (by kernel_rfl) (by kernel_rfl) (by kernel_rfl) (fun _ _ _ h => h) (Or.inl ⟨by rfl, ?hy141⟩) hS ?rest141
          case hy141 => (intro W hW; go_simp; first | with_reducible rfl | (go_bits; first | with_reducible rfl | (go_simp; with_reducible rfl)))
          simp only [List.getElem_toArray, List.getElem_cons_succ, List.getElem_cons_zero, Act.put, List.setIfInBounds_toArray, List.set_cons_succ, List.set_cons_zero]
          refine wpAnyH_take (i := 18) (v := ?v142) rfl (by kernel_rfl) (by kernel_rfl) (by kernel_rfl) (fun _ _ _ h => h) (Or.inl ⟨by rfl, ?hy142⟩) hS ?rest142
          case hy142 => (intro W hW; go_simp; first | with_reducible rfl | (go_bits; first | with_reducible rfl | (go_simp; with_reducible rfl)))
          simp only [List.getElem_toArray, List.getElem_cons_succ, List.getElem_cons_zero, Act.put, List.setIfInBounds_toArray, List.set_cons_succ, List.set_cons_zero]
          refine wpAnyH_take (i := 19) (v := ?v143) rfl (by kernel_rfl) (by kernel_rfl) (by kernel_rfl) (fun _ _ _ h => h) (Or.inl ⟨by rfl, ?hy143⟩) hS ?rest143
          case hy143 => (intro W hW; go_simp; first | with_reducible rfl | (go_bits; first | with_reducible rfl | (go_simp; with_reducible rfl)))
          simp only [List.getElem_toArray, List.getElem_cons_succ, List.getElem_cons_zero, Act.put, List.setIfInBounds_toArray, List.set_cons_succ, List.set_cons_zero]
          refine wpAnyH_take (i := 20) (v := undef) rfl (by kernel_rfl) (by kernel_rfl) (by kernel_rfl) (fun _ _ _ h => h) (Or.inr ⟨by rfl, rfl⟩) hS ?rest144
          simp only [List.getElem_toArray, List.getElem_cons_succ, List.getElem_cons_zero, Act.put, List.setIfInBounds_toArray, List.set_cons_succ, List.set_cons_zero]
          refine wpAnyH_take (i := 21) (v := undef) rfl (by kernel_rfl) (by kernel_rfl) (by kernel_rfl) (fun _ _ _ h => h) (Or.inr ⟨by rfl, rfl⟩) hS ?rest145
          simp only [List.getElem_toArray, List.getElem_cons_succ, List.getElem_cons_zero, Act.put, List.setIfInBounds_toArray, List.set_cons_succ, List.set_cons_zero]
          refine wpAnyH_take (i := 22) (v := undef) rfl (by kernel_rfl) (by kernel_rfl) (by kernel_rfl) (fun _ _ _ h => h) (Or.inr ⟨by rfl, rfl⟩) hS ?rest146
          simp only [List.getElem_toArray, List.getElem_cons_succ, List.getElem_cons_zero, Act.put, List.setIfInBounds_toArray, List.set_cons_succ, List.set_cons_zero]
          refine wpAnyH_take (i := 23) (v := undef) rfl (by kernel_rfl) (by kernel_rfl) (by kernel_rfl) (fun _ _ _ h => h) (Or.inr ⟨by rfl, rfl⟩) hS ?rest147
          simp only [List.getElem_toArray, List.getElem_cons_succ, List.getElem_cons_zero, Act.put, List.setIfInBounds_toArray, List.set_cons_succ, List.set_cons_zero]
          refine wpAnyH_take (i := 24) (v := undef) rfl (by kernel_rfl) (by kernel_rfl) (by kernel_rfl) (fun _ _ _ h => h) (Or.inr ⟨by rfl, rfl⟩) hS ?rest148
          simp only [List.getElem_toArray, List.getElem_cons_succ, List.getElem_cons_zero, Act.put, List.setIfInBounds_toArray, List.set_cons_succ, List.set_cons_zero]
          refine wpAnyH_take (i := 25) (v := undef) rfl (by kernel_rfl) (by kernel_rfl) (by kernel_rfl) (fun _ _ _ h => h) (Or.inr ⟨by rfl, rfl⟩) hS ?rest149
          simp only [List.getElem_toArray, List.getElem_cons_succ, List.getElem_cons_zero, Act.put, List.setIfInBounds_toArray, List.set_cons_succ, List.set_cons_zero]
          refine wpAnyH_take (i := 26) (v := undef) rfl (by kernel_rfl) (by kernel_rfl) (by kernel_rfl) (fun _ _ _ h => h) (Or.inr ⟨by rfl, rfl⟩) hS ?rest150
          simp only [List.getElem_toArray, List.getElem_cons_succ, List.getElem_cons_zero, Act.put, List.setIfInBounds_toArray, List.set_cons_succ, List.set_cons_zero]
          refine wpAnyH_take (i := 27) (v := undef) rfl (by kernel_rfl) (by kernel_rfl) (by kernel_rfl) (fun _ _ _ h => h) (Or.inr ⟨by rfl, rfl⟩) hS ?rest151
          simp only [List.getElem_toArray, List.getElem_cons_succ, List.getElem_cons_zero, Act.put, List.setIfInBounds_toArray, List.set_cons_succ, List.set_cons_zero]
          refine wpAnyH_take (i := 28) (v := ?v152) rfl (by kernel_rfl) (by kernel_rfl) (by kernel_rfl) (fun _ _ _ h => h) (Or.inl ⟨by rfl, ?hy152⟩) hS ?rest152
          case hy152 => (intro W hW; go_simp; first | with_reducible rfl | (go_bits; first | with_reducible rfl | (go_simp; with_reducible rfl)))
          simp only [List.getElem_toArray, List.getElem_cons_succ, List.getElem_cons_zero, Act.put, List.setIfInBounds_toArray, List.set_cons_succ, List.set_cons_zero]
          refine wpAnyH_take (i := 29) (v := ?v153) rfl (by kernel_rfl) (by kernel_rfl) (by kernel_rfl) (fun _ _ _ h => h) (Or.inl ⟨by rfl, ?hy153⟩) hS ?rest153
          case hy153 => (intro W hW; go_simp; first | with_reducible rfl | (go_bits; first | with_reducible rfl | (go_simp; with_reducible rfl)))
          simp only [List.getElem_toArray, List.getElem_cons_succ, List.getElem_cons_zero, Act.put, List.setIfInBounds_toArray, List.set_cons_succ, List.set_cons_zero]
          refine wpAnyH_take (i := 30) (v := ?v154) rfl (by kernel_rfl) (by kernel_rfl) (by kernel_rfl) (fun _ _ _ h => h) (Or.inl ⟨by rfl, ?hy154⟩) hS ?rest154
          case hy154 => (intro W hW; go_simp; first | with_reducible rfl | (go_bits; first | with_reducible rfl | (go_simp; with_reducible rfl)))
          simp only [List.getElem_toArray, List.getElem_cons_succ, List.getElem_cons_zero, Act.put, List.setIfInBounds_toArray, List.set_cons_succ, List.set_cons_zero]
          refine wpAnyH_take (i := 31) (v := ?v155) rfl (by kernel_rfl) (by kernel_rfl) (by kernel_rfl) (fun _ _ _ h => h) (Or.inl ⟨by rfl, ?hy155⟩) hS ?rest155
          case hy155 => (intro W hW; go_simp; first | with_reducible rfl | (go_bits; first | with_reducible rfl | (go_simp; with_reducible rfl)))
          simp only [List.getElem_toArray, List.getElem_cons_succ, List.getElem_cons_zero, Act.put, List.setIfInBounds_toArray, List.set_cons_succ, List.set_cons_zero]
          refine wpAnyH_take (i := 32) rfl (by kernel_rfl) (by kernel_rfl) (by kernel_rfl) (fun _ _ _ h => h) (yieldsIf_load_one (by rfl) _ _ rfl _ rfl _ Try.isAgg22 (fun W' h => h.cell (by simp; omega) L2.out)) hS ?rest156
          simp only [List.getElem_toArray, List.getElem_cons_succ, List.getElem_cons_zero, Act.put, List.setIfInBounds_toArray, List.set_cons_succ, List.set_cons_zero]
          refine wpAnyH_take (i := 33) (v := ?v157) rfl (by kernel_rfl) (by kernel_rfl) (by kernel_rfl) (fun _ _ _ h => h) (Or.inl ⟨by rfl, ?hy157⟩) hS ?rest157
          case hy157 => (intro W hW; go_simp; first | with_reducible rfl | (go_bits; first | with_reducible rfl | (go_simp; with_reducible rfl)))
          simp only [List.getElem_toArray, List.getElem_cons_succ, List.getElem_cons_zero, Act.put, List.setIfInBounds_toArray, List.set_cons_succ, List.set_cons_zero]
          refine wpAnyH_take (i := 34) (v := ?v158) rfl (by kernel_rfl) (by kernel_rfl) (by kernel_rfl) (fun _ _ _ h => h) (Or.inl ⟨by rfl, ?hy158⟩) hS ?rest158
          case hy158 => (intro W hW; go_simp; first | with_reducible rfl | (go_bits; first | with_reducible rfl | (go_simp; with_reducible rfl)))
          simp only [List.getElem_toArray, List.getElem_cons_succ, List.getElem_cons_zero, Act.put, List.setIfInBounds_toArray, List.set_cons_succ, List.set_cons_zero]
          refine wpAnyH_take (i := 35) (v := ?v159) rfl (by kernel_rfl) (by kernel_rfl) (by kernel_rfl) (fun _ _ _ h => h) (Or.inl ⟨by rfl, ?hy159⟩) hS ?rest159
          case hy159 => (intro W hW; go_simp; first | with_reducible rfl | (go_bits; first | with_reducible rfl | (go_simp; with_reducible rfl)))
          simp only [List.getElem_toArray, List.getElem_cons_succ, List.getElem_cons_zero, Act.put, List.setIfInBounds_toArray, List.set_cons_succ, List.set_cons_zero]
          refine wpAnyH_take (i := 36) (v := ?v160) rfl (by kernel_rfl) (by kernel_rfl) (by kernel_rfl) (fun _ _ _ h => h) (Or.inl ⟨by rfl, ?hy160⟩) hS ?rest160
          case hy160 => (intro W hW; go_simp; first | with_reducible rfl | (go_bits; first | with_reducible rfl | (go_simp; with_reducible rfl)))
          simp only [List.getElem_toArray, List.getElem_cons_succ, List.getElem_cons_zero, Act.put, List.setIfInBounds_toArray, List.set_cons_succ, List.set_cons_zero]
          refine wpAnyH_take (i := 37) (v := ?v161) rfl (by kernel_rfl) (by kernel_rfl) (by kernel_rfl) (fun _ _ _ h => h) (Or.inl ⟨by rfl, ?hy161⟩) hS ?rest161
          case hy161 => (intro W hW; go_simp; first | with_reducible rfl | (go_bits; first | with_reducible rfl | (go_simp; with_reducible rfl)))
          simp only [List.getElem_toArray, List.getElem_cons_succ, List.getElem_cons_zero, Act.put, List.setIfInBounds_toArray, List.set_cons_succ, List.set_cons_zero]
          refine wpAnyH_take (i := 38) (v := ?v162) rfl (by kernel_rfl) (by kernel_rfl) (by kernel_rfl) (fun _ _ _ h => h) (Or.inl ⟨by rfl, ?hy162⟩) hS ?rest162
          case hy162 => (intro W hW; go_simp; first | with_reducible rfl | (go_bits; first | with_reducible rfl | (go_simp; with_reducible rfl)))
          simp only [List.getElem_toArray, List.getElem_cons_succ, List.getElem_cons_zero, Act.put, List.setIfInBounds_toArray, List.set_cons_succ, List.set_cons_zero]
          refine wpAnyH_take (i := 39) (v := ?v163) rfl (by kernel_rfl) (by kernel_rfl) (by kernel_rfl) (fun _ _ _ h => h) (Or.inl ⟨by rfl, ?hy163⟩) hS ?rest163
          case hy163 => (intro W hW; go_simp; first | with_reducible rfl | (go_bits; first | with_reducible rfl | (go_simp; with_reducible rfl)))
          simp only [List.getElem_toArray, List.getElem_cons_succ, List.getElem_cons_zero, Act.put, List.setIfInBounds_toArray, List.set_cons_succ, List.set_cons_zero]
          refine wpAnyH_ready (rs := [40]) (by kernel_rfl) (by simp) ?_
          refine AllReadyH.cons rfl (fun K hK => ?_) AllReadyH.nil
          rw [if_pos (by rfl)]
          simp only [List.getElem_toArray, List.getElem_cons_succ, List.getElem_cons_zero]
          have hc4 := L4.out.cell; have hf4 := L4.out.frozen
          have hDlt : D < W.heap.size := (Array.getElem?_eq_some_iff.1 HK.out).1
          have HKz : Hid (∀ W', NlS w16 (w.heap.size + 1 + 1) W' → W'.heap[D]? = some (.deferred (some []))) := Lib.hid (fun W' h => (h.rest D (by omega)).trans ((HB16.out.block D hDlt).trans HK.out))
          have HBz : Hid (∀ W', NlS w16 (w.heap.size + 1 + 1) W' → Below w.heap.size w W') := Lib.hid (fun W' h => (P9.out.trans (HB16.out.mono hWl)).trans ⟨h.os, h.tape, h.output, Nat.le_of_eq h.size.symm, fun k hk => h.rest k (by omega)⟩)
          have HC4 : Hid (Boxed (w16.drew.setCell ⟨w.heap.size + 1 + 1, 0, none⟩ (.bool true)) (w.heap.size + 1 + 1) 4 (.bool true)) := Lib.hid (Boxed.set (W := w16.drew) (.bool true) L4.out)
          go_simp
          refine hK.out _ _ ?s164 (fun hS => ?_)
          case s164 => exact (hS.set (.bool true))
          clear hK K
          clear hc4 hf4
          refine wpAnyH_done (by kernel_rfl) ?_ _
          refine norm_intro ?_
          have HS9 := Lib.hid hS
          clear hS
          go_wp2_with fail
          refine ⟨by simp, .inl ⟨_, _, rfl, run_takeDeferred (HKz.out _ HS9.out), ?_⟩⟩
          have hg9 := grownBy_putObj' (w16.drew.setCell ⟨w.heap.size + 1 + 1, 0, none⟩ (.bool true)) D (.deferred none)
          refine ⟨.bool true, results_cell rfl _ _ ⟨w.heap.size + 1 + 1, 0, none⟩ true rfl (HC4.out.kept hg9 (fun e => by injection e with e; omega)).cell, rfl, ?_⟩
          exact (HBz.out _ HS9.out).trans (belowK_b (w := w5) (by have := hBz.size; omega) _ D _ _ (by omega) (HKz.out _ HS9.out) rfl rfl)
        · have hn0' : 0 < k := by omega
          have hWl := h9.size
          have e1 := h6.cell
          have P3 := Lib.hid h3; have P4 := Lib.hid h4; have P5 := Lib.hid h5; have P6 := Lib.hid h6; have P7 := Lib.hid h7; have P8 := Lib.hid h8; have P9 := Lib.hid h9; have HK := Lib.hid hK
          clear h3 h4 h5 h6 h7 h8 h9 hK
          have t5 : True := trivial
          have t6 : True := trivial
          have t7 : True := trivial
          have t8 : True := trivial
          go_wp2_with (first
            | (go_at_call 19; refine (parent_calls _ ls c2 k Hln.out hn0' (by omega) _ P7.out).mono ?_; rintro e w11 ⟨rfl, hb11⟩; have HB11 := Lib.hid hb11; clear hb11)
            | (have _t := t5; refine wpList_alloc (o := ⟨some 13, _, _, _, _, _⟩) rfl rfl 33 (idc zid).toArray (by kernel_rfl) ?_; intro w12 hb12 hg12 hs12; have Hb12 := Lib.hid hb12; have Hg12 := Lib.hid hg12; clear hb12 hg12 hs12; simp only [Act.put, List.setIfInBounds_toArray, List.set_cons_succ, List.set_cons_zero]; clear t5)
            | (have _t := t6; refine wpList_store_box rfl 33 _ _ rfl w11.heap.size (idc (idAt ls (k - 1))) rfl rfl (t := 33) Hb12.out (by simp [idc_length, idAt_len P7.out.len (k - 1), zid_len]) (by rw [idc_length, idAt_len P7.out.len (k - 1)]; kernel_rfl) (idc_one _) ?_; intro w13 hb13 hg13 hs13; have HB13 := Lib.hid (HB11.out.trans ((grownBy_below (grownBy_new Hg12.out hg13 (Nat.le_refl _))).mono HB11.out.size)); have Hp13 := Lib.hid hb13; have c13 := (Boxed.below P6.out HB13.out P6.out.lt).cell; clear hb13 hg13 hs13; simp only [Act.put, List.setIfInBounds_toArray, List.set_cons_succ, List.set_cons_zero]; clear t6)
            | (go_at_call 16; refine (nearest_nil _ _ k (by omega) _).mono ?_; rintro e w14 ⟨rfl, hb14⟩; have HB14 := Lib.hid hb14; clear hb14)
            | (have _t := t7; refine wpList_alloc (o := ⟨some 15, _, _, _, _, _⟩) rfl rfl 33 (idc zid).toArray (by kernel_rfl) ?_; intro w15 hb15 hg15 hs15; have Hb15 := Lib.hid hb15; have Hg15 := Lib.hid hg15; clear hb15 hg15 hs15; simp only [Act.put, List.setIfInBounds_toArray, List.set_cons_succ, List.set_cons_zero]; clear t7)
            | (have _t := t8; refine wpList_store_box rfl 33 _ _ rfl w14.heap.size (idc zid) rfl rfl (t := 33) Hb15.out (by simp [idc_length, zid_len]) (by rw [idc_length, zid_len]; kernel_rfl) (idc_one _) ?_; intro w16 hb16 hg16 hs16; have HB16' := Lib.hid (HB14.out.trans ((grownBy_below (grownBy_new Hg15.out hg16 (Nat.le_refl _))).mono HB14.out.size)); have HB16 := Lib.hid (HB13.out.trans (HB16'.out.mono HB13.out.size)); have Hp16 := Lib.hid (Hp13.out.below HB16'.out Hp13.out.lt); clear hb16 hg16 hs16; simp only [Act.put, List.setIfInBounds_toArray, List.set_cons_succ, List.set_cons_zero]; clear t8))
          have hsz16 : W.heap.size ≤ w16.heap.size := HB16.out.size
          obtain ⟨j9, hj9⟩ : ∃ j9, k - 1 = j9 := ⟨_, rfl⟩
          have hj9I : (k : Int) - 1 = (j9 : Int) := by omega
          have q1 : (0 : Int) < k := by omega
          have q2 : (j9 : Int) < k := by omega
          have q3 : (0 : Int) ≤ j9 := by omega
          have Q7 := Lib.hid (P7.out.below HB16.out)
          obtain ⟨ad4, x4, hA4, hx4, -, hat4⟩ := Q7.out.at_ (k := j9) (by rw [Hln.out]; omega)
          cases hA4
          have hxx4 : idAt ls j9 = x4 := by unfold idAt; rw [hx4]; rfl
          have hlo := H82.out _ rfl
          have hs11 : W.heap.size ≤ w11.heap.size := HB11.out.size
          have hadb : ad4.block < w5.heap.size := hAs (by rintro rfl; have := Hln.out; simp at this; omega) _ rfl
          rw [← hxx4, ← hj9] at hat4
          have hx32 := idAt_len Q7.out.len (k - 1)
          have L10 := Lib.hid (Boxed.below P8.out HB16.out P8.out.lt).cell
          have L2 := Lib.hid (Boxed.below P3.out HB16.out P3.out.lt).cell
          have L3 := Lib.hid (Boxed.below P4.out HB16.out P4.out.lt).cell
          have L4 := Lib.hid (Boxed.below P5.out HB16.out P5.out.lt)
          have L5 := Lib.hid (Boxed.below P6.out HB16.out P6.out.lt).cell
          have LP := Lib.hid (Hp16.out.id_at hx32)
          have LO := Lib.hid hat4
          have Hj9 := Lib.hid hj9
          rw [hj9] at *
          clear hat4 hx4 hxx4 hj9
          refine Code.wp_mono norm_mono ?_
          refine wp_region_held_drew (S := fun W' => NlS w16 (w.heap.size + 1 + 1) W') (by kernel_rfl) ⟨rfl, rfl, rfl, rfl, fun _ _ => rfl⟩ (fun hS => ?_)
          refine wpAnyH_take (i := 0) rfl (by kernel_rfl) (by kernel_rfl) (by kernel_rfl) (fun _ _ _ h => h) (yieldsIf_load_one (by rfl) _ _ rfl _ rfl _ Try.isAgg3 (fun W' h => h.cell (by simp; omega) L10.out)) hS ?rest165
          simp only [List.getElem_toArray, List.getElem_cons_succ, List.getElem_cons_zero, Act.put, List.setIfInBounds_toArray, List.set_cons_succ, List.set_cons_zero]
          refine wpAnyH_take (i := 1) rfl (by kernel_rfl) (by kernel_rfl) (by kernel_rfl) (fun _ _ _ h => h) (yieldsIf_load_one (by rfl) _ _ rfl _ rfl _ Try.isAgg22 (fun W' h => h.cell (by simp; omega) L2.out)) hS ?rest166
          simp only [List.getElem_toArray, List.getElem_cons_succ, List.getElem_cons_zero, Act.put, List.setIfInBounds_toArray, List.set_cons_succ, List.set_cons_zero]
          refine wpAnyH_take (i := 2) (v := ?v167) rfl (by kernel_rfl) (by kernel_rfl) (by kernel_rfl) (fun _ _ _ h => h) (Or.inl ⟨by rfl, ?hy167⟩) hS ?rest167
          case hy167 => (intro W hW; go_simp; first | with_reducible rfl | (go_bits; first | with_reducible rfl | (go_simp; with_reducible rfl)))
          simp only [List.getElem_toArray, List.getElem_cons_succ, List.getElem_cons_zero, Act.put, List.setIfInBounds_toArray, List.set_cons_succ, List.set_cons_zero]
          refine wpAnyH_take (i := 3) (v := ?v168) rfl (by kernel_rfl) (by kernel_rfl) (by kernel_rfl) (fun _ _ _ h => h) (Or.inl ⟨by rfl, ?hy168⟩) hS ?rest168
          case hy168 => (intro W hW; go_simp; first | with_reducible rfl | (go_bits; first | with_reducible rfl | (go_simp; with_reducible rfl)))
          simp only [List.getElem_toArray, List.getElem_cons_succ, List.getElem_cons_zero, Act.put, List.setIfInBounds_toArray, List.set_cons_succ, List.set_cons_zero]
          refine wpAnyH_take (i := 4) (v := ?v169) rfl (by kernel_rfl) (by kernel_rfl) (by kernel_rfl) (fun _ _ _ h => h) (Or.inl ⟨by rfl, ?hy169⟩) hS ?rest169
          case hy169 => (intro W hW; go_simp; first | with_reducible rfl | (go_bits; first | with_reducible rfl | (go_simp; with_reducible rfl)))
          simp only [List.getElem_toArray, List.getElem_cons_succ, List.getElem_cons_zero, Act.put, List.setIfInBounds_toArray, List.set_cons_succ, List.set_cons_zero]
          refine wpAnyH_take (i := 5) (v := undef) rfl (by kernel_rfl) (by kernel_rfl) (by kernel_rfl) (fun _ _ _ h => h) (Or.inr ⟨by rfl, rfl⟩) hS ?rest170
          simp only [List.getElem_toArray, List.getElem_cons_succ, List.getElem_cons_zero, Act.put, List.setIfInBounds_toArray, List.set_cons_succ, List.set_cons_zero]
          refine wpAnyH_take (i := 6) (v := undef) rfl (by kernel_rfl) (by kernel_rfl) (by kernel_rfl) (fun _ _ _ h => h) (Or.inr ⟨by rfl, rfl⟩) hS ?rest171
          simp only [List.getElem_toArray, List.getElem_cons_succ, List.getElem_cons_zero, Act.put, List.setIfInBounds_toArray, List.set_cons_succ, List.set_cons_zero]
          refine wpAnyH_take (i := 7) (v := undef) rfl (by kernel_rfl) (by kernel_rfl) (by kernel_rfl) (fun _ _ _ h => h) (Or.inr ⟨by rfl, rfl⟩) hS ?rest172
          simp only [List.getElem_toArray, List.getElem_cons_succ, List.getElem_cons_zero, Act.put, List.setIfInBounds_toArray, List.set_cons_succ, List.set_cons_zero]
          refine wpAnyH_take (i := 8) (v := ?v173) rfl (by kernel_rfl) (by kernel_rfl) (by kernel_rfl) (fun _ _ _ h => h) (Or.inl ⟨by rfl, ?hy173⟩) hS ?rest173
          case hy173 => (intro W hW; go_simp; first | with_reducible rfl | (go_bits; first | with_reducible rfl | (go_simp; with_reducible rfl)))
          simp only [List.getElem_toArray, List.getElem_cons_succ, List.getElem_cons_zero, Act.put, List.setIfInBounds_toArray, List.set_cons_succ, List.set_cons_zero]
          refine wpAnyH_take (i := 9) (v := ?v174) rfl (by kernel_rfl) (by kernel_rfl) (by kernel_rfl) (fun _ _ _ h => h) (Or.inl ⟨by rfl, ?hy174⟩) hS ?rest174
          case hy174 => (intro W hW; go_simp; first | with_reducible rfl | (go_bits; first | with_reducible rfl | (go_simp; with_reducible rfl)))
          simp only [List.getElem_toArray, List.getElem_cons_succ, List.getElem_cons_zero, Act.put, List.setIfInBounds_toArray, List.set_cons_succ, List.set_cons_zero]
          refine wpAnyH_take (i := 10) (v := ?v175) rfl (by kernel_rfl) (by kernel_rfl) (by kernel_rfl) (fun _ _ _ h => h) (Or.inl ⟨by rfl, ?hy175⟩) hS ?rest175
          case hy175 => (intro W hW; go_simp; first | with_reducible rfl | (go_bits; first | with_reducible rfl | (go_simp; with_reducible rfl)))
          simp only [List.getElem_toArray, List.getElem_cons_succ, List.getElem_cons_zero, Act.put, List.setIfInBounds_toArray, List.set_cons_succ, List.set_cons_zero]
          refine wpAnyH_take (i := 11) rfl (by kernel_rfl) (by kernel_rfl) (by kernel_rfl) (fun _ _ _ h => h) (yieldsIf_load_one (by rfl) _ _ rfl _ rfl _ Try.isAgg22 (fun W' h => h.cell (by simp; omega) L2.out)) hS ?rest176
          simp only [List.getElem_toArray, List.getElem_cons_succ, List.getElem_cons_zero, Act.put, List.setIfInBounds_toArray, List.set_cons_succ, List.set_cons_zero]
          refine wpAnyH_take (i := 12) (v := ?v177) rfl (by kernel_rfl) (by kernel_rfl) (by kernel_rfl) (fun _ _ _ h => h) (Or.inl ⟨by rfl, ?hy177⟩) hS ?rest177
          case hy177 => (intro W hW; go_simp; first | with_reducible rfl | (go_bits; first | with_reducible rfl | (go_simp; with_reducible rfl)))
          simp only [List.getElem_toArray, List.getElem_cons_succ, List.getElem_cons_zero, Act.put, List.setIfInBounds_toArray, List.set_cons_succ, List.set_cons_zero]
          refine wpAnyH_take (i := 13) (v := ?v178) rfl (by kernel_rfl) (by kernel_rfl) (by kernel_rfl) (fun _ _ _ h => h) (Or.inl ⟨by rfl, ?hy178⟩) hS ?rest178
          case hy178 => (intro W hW; go_simp; first | with_reducible rfl | (go_bits; first | with_reducible rfl | (go_simp; with_reducible rfl)))
          simp only [List.getElem_toArray, List.getElem_cons_succ, List.getElem_cons_zero, Act.put, List.setIfInBounds_toArray, List.set_cons_succ, List.set_cons_zero]
          refine wpAnyH_take (i := 14) (v := ?v179) rfl (by kernel_rfl) (by kernel_rfl) (by kernel_rfl) (fun _ _ _ h => h) (Or.inl ⟨by rfl, ?hy179⟩) hS ?rest179
          case hy179 => (intro W hW; go_simp; first | with_reducible rfl | (go_bits; first | with_reducible rfl | (go_simp; with_reducible rfl)))
          simp only [List.getElem_toArray, List.getElem_cons_succ, List.getElem_cons_zero, Act.put, List.setIfInBounds_toArray, List.set_cons_succ, List.set_cons_zero]
          refine wpAnyH_take (i := 15) (v := ?v180) rfl (by kernel_rfl) (by kernel_rfl) (by kernel_rfl) (fun _ _ _ h => h) (Or.inl ⟨by rfl, ?hy180⟩) hS ?rest180
          case hy180 => (intro W hW; go_simp; first | with_reducible rfl | (go_bits; first | with_reducible rfl | (go_simp; with_reducible rfl)))
          simp only [List.getElem_toArray, List.getElem_cons_succ, List.getElem_cons_zero, Act.put, List.setIfInBounds_toArray, List.set_cons_succ, List.set_cons_zero]
          refine wpAnyH_take (i := 16) (v := ?v181) rfl (by kernel_rfl) (by kernel_rfl) (by kernel_rfl) (fun _ _ _ h => h) (Or.inl ⟨by rfl, ?hy181⟩) hS ?rest181
          case hy181 => (intro W hW; go_simp; first | with_reducible rfl | (go_bits; first | with_reducible rfl | (go_simp; with_reducible rfl)))
          simp only [List.getElem_toArray, List.getElem_cons_succ, List.getElem_cons_zero, Act.put, List.setIfInBounds_toArray, List.set_cons_succ, List.set_cons_zero]
          refine wpAnyH_take (i := 17) (v := ?v182) rfl (by kernel_rfl) (by kernel_rfl) (by kernel_rfl) (fun _ _ _ h => h) (Or.inl ⟨by rfl, ?hy182⟩) hS ?rest182
          case hy182 => (intro W hW; go_simp; first | with_reducible rfl | (go_bits; first | with_reducible rfl | (go_simp; with_reducible rfl)))
          simp only [List.getElem_toArray, List.getElem_cons_succ, List.getElem_cons_zero, Act.put, List.setIfInBounds_toArray, List.set_cons_succ, List.set_cons_zero]
          refine wpAnyH_take (i := 18) (v := ?v183) rfl (by kernel_rfl) (by kernel_rfl) (by kernel_rfl) (fun _ _ _ h => h) (Or.inl ⟨by rfl, ?hy183⟩) hS ?rest183
          case hy183 => (intro W hW; go_simp; first | with_reducible rfl | (go_bits; first | with_reducible rfl | (go_simp; with_reducible rfl)))
          simp only [List.getElem_toArray, List.getElem_cons_succ, List.getElem_cons_zero, Act.put, List.setIfInBounds_toArray, List.set_cons_succ, List.set_cons_zero]
          refine wpAnyH_take (i := 19) (v := ?v184) rfl (by kernel_rfl) (by kernel_rfl) (by kernel_rfl) (fun _ _ _ h => h) (Or.inl ⟨by rfl, ?hy184⟩) hS ?rest184
          case hy184 => (intro W hW; go_simp; first | with_reducible rfl | (go_bits; first | with_reducible rfl | (go_simp; with_reducible rfl)))
          simp only [List.getElem_toArray, List.getElem_cons_succ, List.getElem_cons_zero, Act.put, List.setIfInBounds_toArray, List.set_cons_succ, List.set_cons_zero]
          refine wpAnyH_take (i := 20) rfl (by kernel_rfl) (by kernel_rfl) (by kernel_rfl) (fun _ _ _ h => h) (yieldsIf_load_id (by rfl) _ _ rfl _ rfl _ (by kernel_rfl) (fun W' h => h.id_at (by simp; omega) LP.out)) hS ?rest185
          simp only [List.getElem_toArray, List.getElem_cons_succ, List.getElem_cons_zero, Act.put, List.setIfInBounds_toArray, List.set_cons_succ, List.set_cons_zero]
          refine wpAnyH_take (i := 21) rfl (by kernel_rfl) (by kernel_rfl) (by kernel_rfl) (fun _ _ _ h => h) (yieldsIf_load_one (by rfl) _ _ rfl _ rfl _ Try.isAgg24 (fun W' h => h.cell (by simp; omega) L5.out)) hS ?rest186
          simp only [List.getElem_toArray, List.getElem_cons_succ, List.getElem_cons_zero, Act.put, List.setIfInBounds_toArray, List.set_cons_succ, List.set_cons_zero]
          refine wpAnyH_take (i := 22) rfl (by kernel_rfl) (by kernel_rfl) (by kernel_rfl) (fun _ _ _ h => h) (yieldsIf_load_one (by rfl) _ _ rfl _ rfl _ Try.isAgg22 (fun W' h => h.cell (by simp; omega) L2.out)) hS ?rest187
          simp only [List.getElem_toArray, List.getElem_cons_succ, List.getElem_cons_zero, Act.put, List.setIfInBounds_toArray, List.set_cons_succ, List.set_cons_zero]
          refine wpAnyH_take (i := 23) (v := ?v188) rfl (by kernel_rfl) (by kernel_rfl) (by kernel_rfl) (fun _ _ _ h => h) (Or.inl ⟨by rfl, ?hy188⟩) hS ?rest188
          case hy188 => (intro W hW; go_simp; first | with_reducible rfl | (go_bits; first | with_reducible rfl | (go_simp; with_reducible rfl)))
          simp only [List.getElem_toArray, List.getElem_cons_succ, List.getElem_cons_zero, Act.put, List.setIfInBounds_toArray, List.set_cons_succ, List.set_cons_zero]
          refine wpAnyH_take (i := 24) (v := ?v189) rfl (by kernel_rfl) (by kernel_rfl) (by kernel_rfl) (fun _ _ _ h => h) (Or.inl ⟨by rfl, ?hy189⟩) hS ?rest189
          case hy189 => (intro W hW; go_simp; first | with_reducible rfl | (go_bits; first | with_reducible rfl | (go_simp; with_reducible rfl)))
          simp only [List.getElem_toArray, List.getElem_cons_succ, List.getElem_cons_zero, Act.put, List.setIfInBounds_toArray, List.set_cons_succ, List.set_cons_zero]
          refine wpAnyH_take (i := 25) (v := ?v190) rfl (by kernel_rfl) (by kernel_rfl) (by kernel_rfl) (fun _ _ _ h => h) (Or.inl ⟨by rfl, ?hy190⟩) hS ?rest190
          case hy190 => (intro W hW; go_simp; first | with_reducible rfl | (go_bits; first | with_reducible rfl | (go_simp; with_reducible rfl)))
          simp only [List.getElem_toArray, List.getElem_cons_succ, List.getElem_cons_zero, Act.put, List.setIfInBounds_toArray, List.set_cons_succ, List.set_cons_zero]
          refine wpAnyH_take (i := 26) rfl (by kernel_rfl) (by kernel_rfl) (by kernel_rfl) (fun _ _ _ h => h) (yieldsIf_load_id (by rfl) _ _ rfl _ rfl _ (by kernel_rfl) (fun W' h => h.id_at (by rw [Addr.add_block]; omega) LO.out)) hS ?rest191
          simp only [List.getElem_toArray, List.getElem_cons_succ, List.getElem_cons_zero, Act.put, List.setIfInBounds_toArray, List.set_cons_succ, List.set_cons_zero]
          refine wpAnyH_take (i := 27) (v := ?v192) rfl (by kernel_rfl) (by kernel_rfl) (by kernel_rfl) (fun _ _ _ h => h) (Or.inl ⟨by rfl, ?hy192⟩) hS ?rest192
          case hy192 => (intro W hW; go_simp; first | with_reducible rfl | (go_bits; first | with_reducible rfl | (go_simp; with_reducible rfl)))
          simp only [List.getElem_toArray, List.getElem_cons_succ, List.getElem_cons_zero, Act.put, List.setIfInBounds_toArray, List.set_cons_succ, List.set_cons_zero]
          refine wpAnyH_take (i := 28) (v := ?v193) rfl (by kernel_rfl) (by kernel_rfl) (by kernel_rfl) (fun _ _ _ h => h) (Or.inl ⟨by rfl, ?hy193⟩) hS ?rest193
          case hy193 => (intro W hW; go_simp; first | with_reducible rfl | (go_bits; first | with_reducible rfl | (go_simp; with_reducible rfl)))
          simp only [List.getElem_toArray, List.getElem_cons_succ, List.getElem_cons_zero, Act.put, List.setIfInBounds_toArray, List.set_cons_succ, List.set_cons_zero]
          refine wpAnyH_take (i := 29) (v := ?v194) rfl (by kernel_rfl) (by kernel_rfl) (by kernel_rfl) (fun _ _ _ h => h) (Or.inl ⟨by rfl, ?hy194⟩) hS ?rest194
          case hy194 => (intro W hW; go_simp; first | with_reducible rfl | (go_bits; first | with_reducible rfl | (go_simp; with_reducible rfl)))
          simp only [List.getElem_toArray, List.getElem_cons_succ, List.getElem_cons_zero, Act.put, List.setIfInBounds_toArray, List.set_cons_succ, List.set_cons_zero]
          refine wpAnyH_take (i := 30) (v := ?v195) rfl (by kernel_rfl) (by kernel_rfl) (by kernel_rfl) (fun _ _ _ h => h) (Or.inl ⟨by rfl, ?hy195⟩) hS ?rest195
          case hy195 => (intro W hW; go_simp; first | with_reducible rfl | (go_bits; first | with_reducible rfl | (go_simp; with_reducible rfl)))
          simp only [List.getElem_toArray, List.getElem_cons_succ, List.getElem_cons_zero, Act.put, List.setIfInBounds_toArray, List.set_cons_succ, List.set_cons_zero]
          refine wpAnyH_take (i := 31) (v := ?v196) rfl (by kernel_rfl) (by kernel_rfl) (by kernel_rfl) (fun _ _ _ h => h) (Or.inl ⟨by rfl, ?hy196⟩) hS ?rest196
          case hy196 => (intro W hW; go_simp; first | with_reducible rfl | (go_bits; first | with_reducible rfl | (go_simp; with_reducible rfl)))
          simp only [List.getElem_toArray, List.getElem_cons_succ, List.getElem_cons_zero, Act.put, List.setIfInBounds_toArray, List.set_cons_succ, List.set_cons_zero]
          refine wpAnyH_take (i := 32) rfl (by kernel_rfl) (by kernel_rfl) (by kernel_rfl) (fun _ _ _ h => h) (yieldsIf_load_one (by rfl) _ _ rfl _ rfl _ Try.isAgg22 (fun W' h => h.cell (by simp; omega) L2.out)) hS ?rest197
          simp only [List.getElem_toArray, List.getElem_cons_succ, List.getElem_cons_zero, Act.put, List.setIfInBounds_toArray, List.set_cons_succ, List.set_cons_zero]
          refine wpAnyH_take (i := 33) (v := ?v198) rfl (by kernel_rfl) (by kernel_rfl) (by kernel_rfl) (fun _ _ _ h => h) (Or.inl ⟨by rfl, ?hy198⟩) hS ?rest198
          case hy198 => (intro W hW; go_simp; first | with_reducible rfl | (go_bits; first | with_reducible rfl | (go_simp; with_reducible rfl)))
          simp only [List.getElem_toArray, List.getElem_cons_succ, List.getElem_cons_zero, Act.put, List.setIfInBounds_toArray, List.set_cons_succ, List.set_cons_zero]
          refine wpAnyH_take (i := 34) (v := ?v199) rfl (by kernel_rfl) (by kernel_rfl) (by kernel_rfl) (fun _ _ _ h => h) (Or.inl ⟨by rfl, ?hy199⟩) hS ?rest199
          case hy199 => (intro W hW; go_simp; first | with_reducible rfl | (go_bits; first | with_reducible rfl | (go_simp; with_reducible rfl)))
          simp only [List.getElem_toArray, List.getElem_cons_succ, List.getElem_cons_zero, Act.put, List.setIfInBounds_toArray, List.set_cons_succ, List.set_cons_zero]
          refine wpAnyH_take (i := 35) (v := ?v200) rfl (by kernel_rfl) (by kernel_rfl) (by kernel_rfl) (fun _ _ _ h => h) (Or.inl ⟨by rfl, ?hy200⟩) hS ?rest200
          case hy200 => (intro W hW; go_simp; first | with_reducible rfl | (go_bits; first | with_reducible rfl | (go_simp; with_reducible rfl)))
          simp only [List.getElem_toArray, List.getElem_cons_succ, List.getElem_cons_zero, Act.put, List.setIfInBounds_toArray, List.set_cons_succ, List.set_cons_zero]
          refine wpAnyH_take (i := 36) (v := ?v201) rfl (by kernel_rfl) (by kernel_rfl) (by kernel_rfl) (fun _ _ _ h => h) (Or.inl ⟨by rfl, ?hy201⟩) hS ?rest201
          case hy201 => (intro W hW; go_simp; first | with_reducible rfl | (go_bits; first | with_reducible rfl | (go_simp; with_reducible rfl)))
          simp only [List.getElem_toArray, List.getElem_cons_succ, List.getElem_cons_zero, Act.put, List.setIfInBounds_toArray, List.set_cons_succ, List.set_cons_zero]
          refine wpAnyH_take (i := 37) (v := ?v202) rfl (by kernel_rfl) (by kernel_rfl) (by kernel_rfl) (fun _ _ _ h => h) (Or.inl ⟨by rfl, ?hy202⟩) hS ?rest202
          case hy202 => (intro W hW; go_simp; first | with_reducible rfl | (go_bits; first | with_reducible rfl | (go_simp; with_reducible rfl)))
          simp only [List.getElem_toArray, List.getElem_cons_succ, List.getElem_cons_zero, Act.put, List.setIfInBounds_toArray, List.set_cons_succ, List.set_cons_zero]
          refine wpAnyH_take (i := 38) (v := ?v203) rfl (by kernel_rfl) (by kernel_rfl) (by kernel_rfl) (fun _ _ _ h => h) (Or.inl ⟨by rfl, ?hy203⟩) hS ?rest203
          case hy203 => (intro W hW; go_simp; first | with_reducible rfl | (go_bits; first | with_reducible rfl | (go_simp; with_reducible rfl)))
          simp only [List.getElem_toArray, List.getElem_cons_succ, List.getElem_cons_zero, Act.put, List.setIfInBounds_toArray, List.set_cons_succ, List.set_cons_zero]
          refine wpAnyH_take (i := 39) (v := ?v204) rfl (by kernel_rfl) (by kernel_rfl) (by kernel_rfl) (fun _ _ _ h => h) (Or.inl ⟨by rfl, ?hy204⟩) hS ?rest204
          case hy204 => (intro W hW; go_simp; first | with_reducible rfl | (go_bits; first | with_reducible rfl | (go_simp; with_reducible rfl)))
          simp only [List.getElem_toArray, List.getElem_cons_succ, List.getElem_cons_zero, Act.put, List.setIfInBounds_toArray, List.set_cons_succ, List.set_cons_zero]
          refine wpAnyH_ready (rs := [40]) (by kernel_rfl) (by simp) ?_
          refine AllReadyH.cons rfl (fun K hK => ?_) AllReadyH.nil
          rw [if_pos (by rfl)]
          simp only [List.getElem_toArray, List.getElem_cons_succ, List.getElem_cons_zero]
          have hc4 := L4.out.cell; have hf4 := L4.out.frozen
          have hDlt : D < W.heap.size := (Array.getElem?_eq_some_iff.1 HK.out).1
          have HKz : Hid (∀ W', NlS w16 (w.heap.size + 1 + 1) W' → W'.heap[D]? = some (.deferred (some []))) := Lib.hid (fun W' h => (h.rest D (by omega)).trans ((HB16.out.block D hDlt).trans HK.out))
          have HBz : Hid (∀ W', NlS w16 (w.heap.size + 1 + 1) W' → Below w.heap.size w W') := Lib.hid (fun W' h => (P9.out.trans (HB16.out.mono hWl)).trans ⟨h.os, h.tape, h.output, Nat.le_of_eq h.size.symm, fun k hk => h.rest k (by omega)⟩)
          have HC4 : Hid (Boxed (w16.drew.setCell ⟨w.heap.size + 1 + 1, 0, none⟩ (.bool true)) (w.heap.size + 1 + 1) 4 (.bool true)) := Lib.hid (Boxed.set (W := w16.drew) (.bool true) L4.out)
          go_simp
          refine hK.out _ _ ?s205 (fun hS => ?_)
          case s205 => exact (hS.set (.bool true))
          clear hK K
          clear hc4 hf4
          refine wpAnyH_done (by kernel_rfl) ?_ _
          refine norm_intro ?_
          have HS9 := Lib.hid hS
          clear hS
          go_wp2_with fail
          refine ⟨by simp, .inl ⟨_, _, rfl, run_takeDeferred (HKz.out _ HS9.out), ?_⟩⟩
          have hg9 := grownBy_putObj' (w16.drew.setCell ⟨w.heap.size + 1 + 1, 0, none⟩ (.bool true)) D (.deferred none)
          refine ⟨.bool true, results_cell rfl _ _ ⟨w.heap.size + 1 + 1, 0, none⟩ true rfl (HC4.out.kept hg9 (fun e => by injection e with e; omega)).cell, rfl, ?_⟩
          exact (HBz.out _ HS9.out).trans (belowK_b (w := w5) (by have := hBz.size; omega) _ D _ _ (by omega) (HKz.out _ HS9.out) rfl rfl)
      case stop1 =>
        rintro D k8 pre W hD ⟨j8, hj8, rfl⟩ (⟨rfl, hst, ⟨-, hSz, h3, h4, h5, h6, h7, h8, h9⟩⟩ | ⟨rfl, hno⟩) hK
        · rw [down_length] at h8 hst
          by_cases hj8e : j8 = k
          · rw [hj8e] at h8
            have hm1 : ((k : Int) == (k : Int)) = true := beq_self_eq_true _
            clear hst hj8e hj8
            by_cases hn0 : k = 0
            · have hz0 : c = c := rfl
              subst hn0
              have hWl := h9.size
              have e1 := h6.cell
              have P3 := Lib.hid h3; have P4 := Lib.hid h4; have P5 := Lib.hid h5; have P6 := Lib.hid h6; have P7 := Lib.hid h7; have P8 := Lib.hid h8; have P9 := Lib.hid h9; have HK := Lib.hid hK
              clear h3 h4 h5 h6 h7 h8 h9 hK
              have t5 : True := trivial
              have t6 : True := trivial
              have t7 : True := trivial
              have t8 : True := trivial
              refine wpIn_wide.2 ?_
              go_wp2_with (first
                | (go_at_call 19; refine (parent_none _ c2 _).mono ?_; rintro e w11 ⟨rfl, hb11⟩; have HB11 := Lib.hid hb11; clear hb11)
                | (have _t := t5; refine wpList_alloc (o := ⟨some 13, _, _, _, _, _⟩) rfl rfl 33 (idc zid).toArray (by kernel_rfl) ?_; intro w12 hb12 hg12 hs12; have Hb12 := Lib.hid hb12; have Hg12 := Lib.hid hg12; clear hb12 hg12 hs12; simp only [Act.put, List.setIfInBounds_toArray, List.set_cons_succ, List.set_cons_zero]; clear t5)
                | (have _t := t6; refine wpList_store_box rfl 33 _ _ rfl w11.heap.size (idc zid) rfl rfl (t := 33) Hb12.out (by simp [idc_length, zid_len, zid_len]) (by rw [idc_length, zid_len]; kernel_rfl) (idc_one _) ?_; intro w13 hb13 hg13 hs13; have HB13 := Lib.hid (HB11.out.trans ((grownBy_below (grownBy_new Hg12.out hg13 (Nat.le_refl _))).mono HB11.out.size)); have Hp13 := Lib.hid hb13; have c13 := (Boxed.below P6.out HB13.out P6.out.lt).cell; clear hb13 hg13 hs13; simp only [Act.put, List.setIfInBounds_toArray, List.set_cons_succ, List.set_cons_zero]; clear t6)
                | (go_at_call 16; refine (nearest_nil _ _ 0 (by omega) _).mono ?_; rintro e w14 ⟨rfl, hb14⟩; have HB14 := Lib.hid hb14; clear hb14)
                | (have _t := t7; refine wpList_alloc (o := ⟨some 15, _, _, _, _, _⟩) rfl rfl 33 (idc zid).toArray (by kernel_rfl) ?_; intro w15 hb15 hg15 hs15; have Hb15 := Lib.hid hb15; have Hg15 := Lib.hid hg15; clear hb15 hg15 hs15; simp only [Act.put, List.setIfInBounds_toArray, List.set_cons_succ, List.set_cons_zero]; clear t7)
                | (have _t := t8; refine wpList_store_box rfl 33 _ _ rfl w14.heap.size (idc zid) rfl rfl (t := 33) Hb15.out (by simp [idc_length, zid_len]) (by rw [idc_length, zid_len]; kernel_rfl) (idc_one _) ?_; intro w16 hb16 hg16 hs16; have HB16' := Lib.hid (HB14.out.trans ((grownBy_below (grownBy_new Hg15.out hg16 (Nat.le_refl _))).mono HB14.out.size)); have HB16 := Lib.hid (HB13.out.trans (HB16'.out.mono HB13.out.size)); have Hp16 := Lib.hid (Hp13.out.below HB16'.out Hp13.out.lt); clear hb16 hg16 hs16; simp only [Act.put, List.setIfInBounds_toArray, List.set_cons_succ, List.set_cons_zero]; clear t8))
              have hsz16 : W.heap.size ≤ w16.heap.size := HB16.out.size
              have hs11 : W.heap.size ≤ w11.heap.size := HB11.out.size
              have L10 := Lib.hid (Boxed.below P8.out HB16.out P8.out.lt).cell
              have L2 := Lib.hid (Boxed.below P3.out HB16.out P3.out.lt).cell
              have L3 := Lib.hid (Boxed.below P4.out HB16.out P4.out.lt).cell
              have L4 := Lib.hid (Boxed.below P5.out HB16.out P5.out.lt)
              have L5 := Lib.hid (Boxed.below P6.out HB16.out P6.out.lt).cell
              refine Code.wp_mono norm_mono ?_
              refine wp_region_held_drew (S := fun W' => NlS w16 (w.heap.size + 1 + 1) W') (by kernel_rfl) ⟨rfl, rfl, rfl, rfl, fun _ _ => rfl⟩ (fun hS => ?_)
              refine wpAnyH_take (i := 0) rfl (by kernel_rfl) (by kernel_rfl) (by kernel_rfl) (fun _ _ _ h => h) (yieldsIf_load_one (by rfl) _ _ rfl _ rfl _ Try.isAgg3 (fun W' h => h.cell (by simp; omega) L10.out)) hS ?rest206
              simp only [List.getElem_toArray, List.getElem_cons_succ, List.getElem_cons_zero, Act.put, List.setIfInBounds_toArray, List.set_cons_succ, List.set_cons_zero]
              refine wpAnyH_take (i := 1) rfl (by kernel_rfl) (by kernel_rfl) (by kernel_rfl) (fun _ _ _ h => h) (yieldsIf_load_one (by rfl) _ _ rfl _ rfl _ Try.isAgg22 (fun W' h => h.cell (by simp; omega) L2.out)) hS ?rest207
              simp only [List.getElem_toArray, List.getElem_cons_succ, List.getElem_cons_zero, Act.put, List.setIfInBounds_toArray, List.set_cons_succ, List.set_cons_zero]
              refine wpAnyH_take (i := 2) (v := ?v208) rfl (by kernel_rfl) (by kernel_rfl) (by kernel_rfl) (fun _ _ _ h => h) (Or.inl ⟨by rfl, ?hy208⟩) hS ?rest208
              case hy208 => (intro W hW; go_simp; first | with_reducible rfl | (go_bits; first | with_reducible rfl | (go_simp; with_reducible rfl)))
              simp only [List.getElem_toArray, List.getElem_cons_succ, List.getElem_cons_zero, Act.put, List.setIfInBounds_toArray, List.set_cons_succ, List.set_cons_zero]
              refine wpAnyH_take (i := 3) (v := ?v209) rfl (by kernel_rfl) (by kernel_rfl) (by kernel_rfl) (fun _ _ _ h => h) (Or.inl ⟨by rfl, ?hy209⟩) hS ?rest209
              case hy209 => (intro W hW; go_simp; first | with_reducible rfl | (go_bits; first | with_reducible rfl | (go_simp; with_reducible rfl)))
              simp only [List.getElem_toArray, List.getElem_cons_succ, List.getElem_cons_zero, Act.put, List.setIfInBounds_toArray, List.set_cons_succ, List.set_cons_zero]
              refine wpAnyH_take (i := 4) (v := ?v210) rfl (by kernel_rfl) (by kernel_rfl) (by kernel_rfl) (fun _ _ _ h => h) (Or.inl ⟨by rfl, ?hy210⟩) hS ?rest210
              case hy210 => (intro W hW; go_simp; first | with_reducible rfl | (go_bits; first | with_reducible rfl | (go_simp; with_reducible rfl)))
              simp only [List.getElem_toArray, List.getElem_cons_succ, List.getElem_cons_zero, Act.put, List.setIfInBounds_toArray, List.set_cons_succ, List.set_cons_zero]
              refine wpAnyH_take (i := 5) (v := undef) rfl (by kernel_rfl) (by kernel_rfl) (by kernel_rfl) (fun _ _ _ h => h) (Or.inr ⟨by rfl, rfl⟩) hS ?rest211
              simp only [List.getElem_toArray, List.getElem_cons_succ, List.getElem_cons_zero, Act.put, List.setIfInBounds_toArray, List.set_cons_succ, List.set_cons_zero]
              refine wpAnyH_take (i := 6) (v := undef) rfl (by kernel_rfl) (by kernel_rfl) (by kernel_rfl) (fun _ _ _ h => h) (Or.inr ⟨by rfl, rfl⟩) hS ?rest212
              simp only [List.getElem_toArray, List.getElem_cons_succ, List.getElem_cons_zero, Act.put, List.setIfInBounds_toArray, List.set_cons_succ, List.set_cons_zero]
              refine wpAnyH_take (i := 7) (v := undef) rfl (by kernel_rfl) (by kernel_rfl) (by kernel_rfl) (fun _ _ _ h => h) (Or.inr ⟨by rfl, rfl⟩) hS ?rest213
              simp only [List.getElem_toArray, List.getElem_cons_succ, List.getElem_cons_zero, Act.put, List.setIfInBounds_toArray, List.set_cons_succ, List.set_cons_zero]
              refine wpAnyH_take (i := 8) (v := ?v214) rfl (by kernel_rfl) (by kernel_rfl) (by kernel_rfl) (fun _ _ _ h => h) (Or.inl ⟨by rfl, ?hy214⟩) hS ?rest214
              case hy214 => (intro W hW; go_simp; first | with_reducible rfl | (go_bits; first | with_reducible rfl | (go_simp; with_reducible rfl)))
              simp only [List.getElem_toArray, List.getElem_cons_succ, List.getElem_cons_zero, Act.put, List.setIfInBounds_toArray, List.set_cons_succ, List.set_cons_zero]
              refine wpAnyH_take (i := 9) (v := ?v215) rfl (by kernel_rfl) (by kernel_rfl) (by kernel_rfl) (fun _ _ _ h => h) (Or.inl ⟨by rfl, ?hy215⟩) hS ?rest215
              case hy215 => (intro W hW; go_simp; first | with_reducible rfl | (go_bits; first | with_reducible rfl | (go_simp; with_reducible rfl)))
              simp only [List.getElem_toArray, List.getElem_cons_succ, List.getElem_cons_zero, Act.put, List.setIfInBounds_toArray, List.set_cons_succ, List.set_cons_zero]
              refine wpAnyH_take (i := 10) (v := ?v216) rfl (by kernel_rfl) (by kernel_rfl) (by kernel_rfl) (fun _ _ _ h => h) (Or.inl ⟨by rfl, ?hy216⟩) hS ?rest216
              case hy216 => (intro W hW; go_simp; first | with_reducible rfl | (go_bits; first | with_reducible rfl | (go_simp; with_reducible rfl)))
              simp only [List.getElem_toArray, List.getElem_cons_succ, List.getElem_cons_zero, Act.put, List.setIfInBounds_toArray, List.set_cons_succ, List.set_cons_zero]
              refine wpAnyH_take (i := 11) rfl (by kernel_rfl) (by kernel_rfl) (by kernel_rfl) (fun _ _ _ h => h) (yieldsIf_load_one (by rfl) _ _ rfl _ rfl _ Try.isAgg22 (fun W' h => h.cell (by simp; omega) L2.out)) hS ?rest217
              simp only [List.getElem_toArray, List.getElem_cons_succ, List.getElem_cons_zero, Act.put, List.setIfInBounds_toArray, List.set_cons_succ, List.set_cons_zero]
              refine wpAnyH_take (i := 12) (v := ?v218) rfl (by kernel_rfl) (by kernel_rfl) (by kernel_rfl) (fun _ _ _ h => h) (Or.inl ⟨by rfl, ?hy218⟩) hS ?rest218
              case hy218 => (intro W hW; go_simp; first | with_reducible rfl | (go_bits; first | with_reducible rfl | (go_simp; with_reducible rfl)))
              simp only [List.getElem_toArray, List.getElem_cons_succ, List.getElem_cons_zero, Act.put, List.setIfInBounds_toArray, List.set_cons_succ, List.set_cons_zero]
              refine wpAnyH_take (i := 13) (v := ?v219) rfl (by kernel_rfl) (by kernel_rfl) (by kernel_rfl) (fun _ _ _ h => h) (Or.inl ⟨by rfl, ?hy219⟩) hS ?rest219
              case hy219 => (intro W hW; go_simp; first | with_reducible rfl | (go_bits; first | with_reducible rfl | (go_simp; with_reducible rfl)))
              simp only [List.getElem_toArray, List.getElem_cons_succ, List.getElem_cons_zero, Act.put, List.setIfInBounds_toArray, List.set_cons_succ, List.set_cons_zero]
              refine wpAnyH_take (i := 14) (v := ?v220) rfl (by kernel_rfl) (by kernel_rfl) (by kernel_rfl) (fun _ _ _ h => h) (Or.inl ⟨by rfl, ?hy220⟩) hS ?rest220
              case hy220 => (intro W hW; go_simp; first | with_reducible rfl | (go_bits; first | with_reducible rfl | (go_simp; with_reducible rfl)))
              simp only [List.getElem_toArray, List.getElem_cons_succ, List.getElem_cons_zero, Act.put, List.setIfInBounds_toArray, List.set_cons_succ, List.set_cons_zero]
              refine wpAnyH_take (i := 15) (v := ?v221) rfl (by kernel_rfl) (by kernel_rfl) (by kernel_rfl) (fun _ _ _ h => h) (Or.inl ⟨by rfl, ?hy221⟩) hS ?rest221
              case hy221 => (intro W hW; go_simp; first | with_reducible rfl | (go_bits; first | with_reducible rfl | (go_simp; with_reducible rfl)))
              simp only [List.getElem_toArray, List.getElem_cons_succ, List.getElem_cons_zero, Act.put, List.setIfInBounds_toArray, List.set_cons_succ, List.set_cons_zero]
              refine wpAnyH_take (i := 16) (v := ?v222) rfl (by kernel_rfl) (by kernel_rfl) (by kernel_rfl) (fun _ _ _ h => h) (Or.inl ⟨by rfl, ?hy222⟩) hS ?rest222
              case hy222 => (intro W hW; go_simp; first | with_reducible rfl | (go_bits; first | with_reducible rfl | (go_simp; with_reducible rfl)))
              simp only [List.getElem_toArray, List.getElem_cons_succ, List.getElem_cons_zero, Act.put, List.setIfInBounds_toArray, List.set_cons_succ, List.set_cons_zero]
              refine wpAnyH_take (i := 17) (v := ?v223) rfl (by kernel_rfl) (by kernel_rfl) (by kernel_rfl) (fun _ _ _ h => h) (Or.inl ⟨by rfl, ?hy223⟩) hS ?rest223
              case hy223 => (intro W hW; go_simp; first | with_reducible rfl | (go_bits; first | with_reducible rfl | (go_simp; with_reducible rfl)))
              simp only [List.getElem_toArray, List.getElem_cons_succ, List.getElem_cons_zero, Act.put, List.setIfInBounds_toArray, List.set_cons_succ, List.set_cons_zero]
              refine wpAnyH_take (i := 18) (v := ?v224) rfl (by kernel_rfl) (by kernel_rfl) (by kernel_rfl) (fun _ _ _ h => h) (Or.inl ⟨by rfl, ?hy224⟩) hS ?rest224
              case hy224 => (intro W hW; go_simp; first | with_reducible rfl | (go_bits; first | with_reducible rfl | (go_simp; with_reducible rfl)))
              simp only [List.getElem_toArray, List.getElem_cons_succ, List.getElem_cons_zero, Act.put, List.setIfInBounds_toArray, List.set_cons_succ, List.set_cons_zero]
              refine wpAnyH_take (i := 19) (v := ?v225) rfl (by kernel_rfl) (by kernel_rfl) (by kernel_rfl) (fun _ _ _ h => h) (Or.inl ⟨by rfl, ?hy225⟩) hS ?rest225
              case hy225 => (intro W hW; go_simp; first | with_reducible rfl | (go_bits; first | with_reducible rfl | (go_simp; with_reducible rfl)))
              simp only [List.getElem_toArray, List.getElem_cons_succ, List.getElem_cons_zero, Act.put, List.setIfInBounds_toArray, List.set_cons_succ, List.set_cons_zero]
              refine wpAnyH_take (i := 20) (v := undef) rfl (by kernel_rfl) (by kernel_rfl) (by kernel_rfl) (fun _ _ _ h => h) (Or.inr ⟨by rfl, rfl⟩) hS ?rest226
              simp only [List.getElem_toArray, List.getElem_cons_succ, List.getElem_cons_zero, Act.put, List.setIfInBounds_toArray, List.set_cons_succ, List.set_cons_zero]
              refine wpAnyH_take (i := 21) (v := undef) rfl (by kernel_rfl) (by kernel_rfl) (by kernel_rfl) (fun _ _ _ h => h) (Or.inr ⟨by rfl, rfl⟩) hS ?rest227
              simp only [List.getElem_toArray, List.getElem_cons_succ, List.getElem_cons_zero, Act.put, List.setIfInBounds_toArray, List.set_cons_succ, List.set_cons_zero]
              refine wpAnyH_take (i := 22) (v := undef) rfl (by kernel_rfl) (by kernel_rfl) (by kernel_rfl) (fun _ _ _ h => h) (Or.inr ⟨by rfl, rfl⟩) hS ?rest228
              simp only [List.getElem_toArray, List.getElem_cons_succ, List.getElem_cons_zero, Act.put, List.setIfInBounds_toArray, List.set_cons_succ, List.set_cons_zero]
              refine wpAnyH_take (i := 23) (v := undef) rfl (by kernel_rfl) (by kernel_rfl) (by kernel_rfl) (fun _ _ _ h => h) (Or.inr ⟨by rfl, rfl⟩) hS ?rest229
              simp only [List.getElem_toArray, List.getElem_cons_succ, List.getElem_cons_zero, Act.put, List.setIfInBounds_toArray, List.set_cons_succ, List.set_cons_zero]
              refine wpAnyH_take (i := 24) (v := undef) rfl (by kernel_rfl) (by kernel_rfl) (by kernel_rfl) (fun _ _ _ h => h) (Or.inr ⟨by rfl, rfl⟩) hS ?rest230
              simp only [List.getElem_toArray, List.getElem_cons_succ, List.getElem_cons_zero, Act.put, List.setIfInBounds_toArray, List.set_cons_succ, List.set_cons_zero]
              refine wpAnyH_take (i := 25) (v := undef) rfl (by kernel_rfl) (by kernel_rfl) (by kernel_rfl) (fun _ _ _ h => h) (Or.inr ⟨by rfl, rfl⟩) hS ?rest231
              simp only [List.getElem_toArray, List.getElem_cons_succ, List.getElem_cons_zero, Act.put, List.setIfInBounds_toArray, List.set_cons_succ, List.set_cons_zero]
              refine wpAnyH_take (i := 26) (v := undef) rfl (by kernel_rfl) (by kernel_rfl) (by kernel_rfl) (fun _ _ _ h => h) (Or.inr ⟨by rfl, rfl⟩) hS ?rest232
              simp only [List.getElem_toArray, List.getElem_cons_succ, List.getElem_cons_zero, Act.put, List.setIfInBounds_toArray, List.set_cons_succ, List.set_cons_zero]
              refine wpAnyH_take (i := 27) (v := undef) rfl (by kernel_rfl) (by kernel_rfl) (by kernel_rfl) (fun _ _ _ h => h) (Or.inr ⟨by rfl, rfl⟩) hS ?rest233
              simp only [List.getElem_toArray, List.getElem_cons_succ, List.getElem_cons_zero, Act.put, List.setIfInBounds_toArray, List.set_cons_succ, List.set_cons_zero]
              refine wpAnyH_take (i := 28) (v := ?v234) rfl (by kernel_rfl) (by kernel_rfl) (by kernel_rfl) (fun _ _ _ h => h) (Or.inl ⟨by rfl, ?hy234⟩) hS ?rest234
              case hy234 => (intro W hW; go_simp; first | with_reducible rfl | (go_bits; first | with_reducible rfl | (go_simp; with_reducible rfl)))
              simp only [List.getElem_toArray, List.getElem_cons_succ, List.getElem_cons_zero, Act.put, List.setIfInBounds_toArray, List.set_cons_succ, List.set_cons_zero]
              refine wpAnyH_take (i := 29) (v := ?v235) rfl (by kernel_rfl) (by kernel_rfl) (by kernel_rfl) (fun _ _ _ h => h) (Or.inl ⟨by rfl, ?hy235⟩) hS ?rest235
              case hy235 => (intro W hW; go_simp; first | with_reducible rfl | (go_bits; first | with_reducible rfl | (go_simp; with_reducible rfl)))
              simp only [List.getElem_toArray, List.getElem_cons_succ, List.getElem_cons_zero, Act.put, List.setIfInBounds_toArray, List.set_cons_succ, List.set_cons_zero]
              refine wpAnyH_take (i := 30) (v := ?v236) rfl (by kernel_rfl) (by kernel_rfl) (by kernel_rfl) (fun _ _ _ h => h) (Or.inl ⟨by rfl, ?hy236⟩) hS ?rest236
              case hy236 => (intro W hW; go_simp; first | with_reducible rfl | (go_bits; first | with_reducible rfl | (go_simp; with_reducible rfl)))
              simp only [List.getElem_toArray, List.getElem_cons_succ, List.getElem_cons_zero, Act.put, List.setIfInBounds_toArray, List.set_cons_succ, List.set_cons_zero]
              refine wpAnyH_take (i := 31) (v := ?v237) rfl (by kernel_rfl) (by kernel_rfl) (by kernel_rfl) (fun _ _ _ h => h) (Or.inl ⟨by rfl, ?hy237⟩) hS ?rest237
              case hy237 => (intro W hW; go_simp; first | with_reducible rfl | (go_bits; first | with_reducible rfl | (go_simp; with_reducible rfl)))
              simp only [List.getElem_toArray, List.getElem_cons_succ, List.getElem_cons_zero, Act.put, List.setIfInBounds_toArray, List.set_cons_succ, List.set_cons_zero]
              refine wpAnyH_take (i := 32) rfl (by kernel_rfl) (by kernel_rfl) (by kernel_rfl) (fun _ _ _ h => h) (yieldsIf_load_one (by rfl) _ _ rfl _ rfl _ Try.isAgg22 (fun W' h => h.cell (by simp; omega) L2.out)) hS ?rest238
              simp only [List.getElem_toArray, List.getElem_cons_succ, List.getElem_cons_zero, Act.put, List.setIfInBounds_toArray, List.set_cons_succ, List.set_cons_zero]
              refine wpAnyH_take (i := 33) (v := ?v239) rfl (by kernel_rfl) (by kernel_rfl) (by kernel_rfl) (fun _ _ _ h => h) (Or.inl ⟨by rfl, ?hy239⟩) hS ?rest239
              case hy239 => (intro W hW; go_simp; first | with_reducible rfl | (go_bits; first | with_reducible rfl | (go_simp; with_reducible rfl)))
              simp only [List.getElem_toArray, List.getElem_cons_succ, List.getElem_cons_zero, Act.put, List.setIfInBounds_toArray, List.set_cons_succ, List.set_cons_zero]
              refine wpAnyH_take (i := 34) (v := ?v240) rfl (by kernel_rfl) (by kernel_rfl) (by kernel_rfl) (fun _ _ _ h => h) (Or.inl ⟨by rfl, ?hy240⟩) hS ?rest240
              case hy240 => (intro W hW; go_simp; first | with_reducible rfl | (go_bits; first | with_reducible rfl | (go_simp; with_reducible rfl)))
              simp only [List.getElem_toArray, List.getElem_cons_succ, List.getElem_cons_zero, Act.put, List.setIfInBounds_toArray, List.set_cons_succ, List.set_cons_zero]
              refine wpAnyH_take (i := 35) (v := ?v241) rfl (by kernel_rfl) (by kernel_rfl) (by kernel_rfl) (fun _ _ _ h => h) (Or.inl ⟨by rfl, ?hy241⟩) hS ?rest241
              case hy241 => (intro W hW; go_simp; first | with_reducible rfl | (go_bits; first | with_reducible rfl | (go_simp; with_reducible rfl)))
              simp only [List.getElem_toArray, List.getElem_cons_succ, List.getElem_cons_zero, Act.put, List.setIfInBounds_toArray, List.set_cons_succ, List.set_cons_zero]
              refine wpAnyH_take (i := 36) (v := ?v242) rfl (by kernel_rfl) (by kernel_rfl) (by kernel_rfl) (fun _ _ _ h => h) (Or.inl ⟨by rfl, ?hy242⟩) hS ?rest242
              case hy242 => (intro W hW; go_simp; first | with_reducible rfl | (go_bits; first | with_reducible rfl | (go_simp; with_reducible rfl)))
              simp only [List.getElem_toArray, List.getElem_cons_succ, List.getElem_cons_zero, Act.put, List.setIfInBounds_toArray, List.set_cons_succ, List.set_cons_zero]
              refine wpAnyH_take (i := 37) (v := ?v243) rfl (by kernel_rfl) (by kernel_rfl) (by kernel_rfl) (fun _ _ _ h => h) (Or.inl ⟨by rfl, ?hy243⟩) hS ?rest243
              case hy243 => (intro W hW; go_simp; first | with_reducible rfl | (go_bits; first | with_reducible rfl | (go_simp; with_reducible rfl)))
              simp only [List.getElem_toArray, List.getElem_cons_succ, List.getElem_cons_zero, Act.put, List.setIfInBounds_toArray, List.set_cons_succ, List.set_cons_zero]
              refine wpAnyH_take (i := 38) (v := ?v244) rfl (by kernel_rfl) (by kernel_rfl) (by kernel_rfl) (fun _ _ _ h => h) (Or.inl ⟨by rfl, ?hy244⟩) hS ?rest244
              case hy244 => (intro W hW; go_simp; first | with_reducible rfl | (go_bits; first | with_reducible rfl | (go_simp; with_reducible rfl)))
              simp only [List.getElem_toArray, List.getElem_cons_succ, List.getElem_cons_zero, Act.put, List.setIfInBounds_toArray, List.set_cons_succ, List.set_cons_zero]
              refine wpAnyH_take (i := 39) (v := ?v245) rfl (by kernel_rfl) (by kernel_rfl) (by kernel_rfl) (fun _ _ _ h => h) (Or.inl ⟨by rfl, ?hy245⟩) hS ?rest245
              case hy245 => (intro W hW; go_simp; first | with_reducible rfl | (go_bits; first | with_reducible rfl | (go_simp; with_reducible rfl)))
              simp only [List.getElem_toArray, List.getElem_cons_succ, List.getElem_cons_zero, Act.put, List.setIfInBounds_toArray, List.set_cons_succ, List.set_cons_zero]
              refine wpAnyH_ready (rs := [40]) (by kernel_rfl) (by simp) ?_
              refine AllReadyH.cons rfl (fun K hK => ?_) AllReadyH.nil
              rw [if_pos (by rfl)]
              simp only [List.getElem_toArray, List.getElem_cons_succ, List.getElem_cons_zero]
              have hc4 := L4.out.cell; have hf4 := L4.out.frozen
              have hDlt : D < W.heap.size := (Array.getElem?_eq_some_iff.1 HK.out).1
              have HKz : Hid (∀ W', NlS w16 (w.heap.size + 1 + 1) W' → W'.heap[D]? = some (.deferred (some []))) := Lib.hid (fun W' h => (h.rest D (by omega)).trans ((HB16.out.block D hDlt).trans HK.out))
              have HBz : Hid (∀ W', NlS w16 (w.heap.size + 1 + 1) W' → Below w.heap.size w W') := Lib.hid (fun W' h => (P9.out.trans (HB16.out.mono hWl)).trans ⟨h.os, h.tape, h.output, Nat.le_of_eq h.size.symm, fun k hk => h.rest k (by omega)⟩)
              have HC4 : Hid (Boxed (w16.drew.setCell ⟨w.heap.size + 1 + 1, 0, none⟩ (.bool true)) (w.heap.size + 1 + 1) 4 (.bool true)) := Lib.hid (Boxed.set (W := w16.drew) (.bool true) L4.out)
              go_simp
              refine hK.out _ _ ?s246 (fun hS => ?_)
              case s246 => exact (hS.set (.bool true))
              clear hK K
              clear hc4 hf4
              refine wpAnyH_done (by kernel_rfl) ?_ _
              refine norm_intro ?_
              have HS9 := Lib.hid hS
              clear hS
              go_wp2_with fail
              refine ⟨by simp, .inl ⟨_, _, rfl, run_takeDeferred (HKz.out _ HS9.out), ?_⟩⟩
              have hg9 := grownBy_putObj' (w16.drew.setCell ⟨w.heap.size + 1 + 1, 0, none⟩ (.bool true)) D (.deferred none)
              refine ⟨.bool true, results_cell rfl _ _ ⟨w.heap.size + 1 + 1, 0, none⟩ true rfl (HC4.out.kept hg9 (fun e => by injection e with e; omega)).cell, rfl, ?_⟩
              exact (HBz.out _ HS9.out).trans (belowK_b (w := w5) (by have := hBz.size; omega) _ D _ _ (by omega) (HKz.out _ HS9.out) rfl rfl)
            · have hn0' : 0 < k := by omega
              have hWl := h9.size
              have e1 := h6.cell
              have P3 := Lib.hid h3; have P4 := Lib.hid h4; have P5 := Lib.hid h5; have P6 := Lib.hid h6; have P7 := Lib.hid h7; have P8 := Lib.hid h8; have P9 := Lib.hid h9; have HK := Lib.hid hK
              clear h3 h4 h5 h6 h7 h8 h9 hK
              have t5 : True := trivial
              have t6 : True := trivial
              have t7 : True := trivial
              have t8 : True := trivial
              refine wpIn_wide.2 ?_
              go_wp2_with (first
                | (go_at_call 19; refine (parent_calls _ ls c2 k Hln.out hn0' (by omega) _ P7.out).mono ?_; rintro e w11 ⟨rfl, hb11⟩; have HB11 := Lib.hid hb11; clear hb11)
                | (have _t := t5; refine wpList_alloc (o := ⟨some 13, _, _, _, _, _⟩) rfl rfl 33 (idc zid).toArray (by kernel_rfl) ?_; intro w12 hb12 hg12 hs12; have Hb12 := Lib.hid hb12; have Hg12 := Lib.hid hg12; clear hb12 hg12 hs12; simp only [Act.put, List.setIfInBounds_toArray, List.set_cons_succ, List.set_cons_zero]; clear t5)
                | (have _t := t6; refine wpList_store_box rfl 33 _ _ rfl w11.heap.size (idc (idAt ls (k - 1))) rfl rfl (t := 33) Hb12.out (by simp [idc_length, idAt_len P7.out.len (k - 1), zid_len]) (by rw [idc_length, idAt_len P7.out.len (k - 1)]; kernel_rfl) (idc_one _) ?_; intro w13 hb13 hg13 hs13; have HB13 := Lib.hid (HB11.out.trans ((grownBy_below (grownBy_new Hg12.out hg13 (Nat.le_refl _))).mono HB11.out.size)); have Hp13 := Lib.hid hb13; have c13 := (Boxed.below P6.out HB13.out P6.out.lt).cell; clear hb13 hg13 hs13; simp only [Act.put, List.setIfInBounds_toArray, List.set_cons_succ, List.set_cons_zero]; clear t6)
                | (go_at_call 16; refine (nearest_nil _ _ k (by omega) _).mono ?_; rintro e w14 ⟨rfl, hb14⟩; have HB14 := Lib.hid hb14; clear hb14)
                | (have _t := t7; refine wpList_alloc (o := ⟨some 15, _, _, _, _, _⟩) rfl rfl 33 (idc zid).toArray (by kernel_rfl) ?_; intro w15 hb15 hg15 hs15; have Hb15 := Lib.hid hb15; have Hg15 := Lib.hid hg15; clear hb15 hg15 hs15; simp only [Act.put, List.setIfInBounds_toArray, List.set_cons_succ, List.set_cons_zero]; clear t7)
                | (have _t := t8; refine wpList_store_box rfl 33 _ _ rfl w14.heap.size (idc zid) rfl rfl (t := 33) Hb15.out (by simp [idc_length, zid_len]) (by rw [idc_length, zid_len]; kernel_rfl) (idc_one _) ?_; intro w16 hb16 hg16 hs16; have HB16' := Lib.hid (HB14.out.trans ((grownBy_below (grownBy_new Hg15.out hg16 (Nat.le_refl _))).mono HB14.out.size)); have HB16 := Lib.hid (HB13.out.trans (HB16'.out.mono HB13.out.size)); have Hp16 := Lib.hid (Hp13.out.below HB16'.out Hp13.out.lt); clear hb16 hg16 hs16; simp only [Act.put, List.setIfInBounds_toArray, List.set_cons_succ, List.set_cons_zero]; clear t8))
              have hsz16 : W.heap.size ≤ w16.heap.size := HB16.out.size
              obtain ⟨j9, hj9⟩ : ∃ j9, k - 1 = j9 := ⟨_, rfl⟩
              have hj9I : (k : Int) - 1 = (j9 : Int) := by omega
              have q1 : (0 : Int) < k := by omega
              have q2 : (j9 : Int) < k := by omega
              have q3 : (0 : Int) ≤ j9 := by omega
              have Q7 := Lib.hid (P7.out.below HB16.out)
              obtain ⟨ad4, x4, hA4, hx4, -, hat4⟩ := Q7.out.at_ (k := j9) (by rw [Hln.out]; omega)
              cases hA4
              have hxx4 : idAt ls j9 = x4 := by unfold idAt; rw [hx4]; rfl
              have hlo := H82.out _ rfl
              have hs11 : W.heap.size ≤ w11.heap.size := HB11.out.size
              have hadb : ad4.block < w5.heap.size := hAs (by rintro rfl; have := Hln.out; simp at this; omega) _ rfl
              rw [← hxx4, ← hj9] at hat4
              have hx32 := idAt_len Q7.out.len (k - 1)
              have L10 := Lib.hid (Boxed.below P8.out HB16.out P8.out.lt).cell
              have L2 := Lib.hid (Boxed.below P3.out HB16.out P3.out.lt).cell
              have L3 := Lib.hid (Boxed.below P4.out HB16.out P4.out.lt).cell
              have L4 := Lib.hid (Boxed.below P5.out HB16.out P5.out.lt)
              have L5 := Lib.hid (Boxed.below P6.out HB16.out P6.out.lt).cell
              have LP := Lib.hid (Hp16.out.id_at hx32)
              have LO := Lib.hid hat4
              have Hj9 := Lib.hid hj9
              rw [hj9] at *
              clear hat4 hx4 hxx4 hj9
              refine Code.wp_mono norm_mono ?_
              refine wp_region_held_drew (S := fun W' => NlS w16 (w.heap.size + 1 + 1) W') (by kernel_rfl) ⟨rfl, rfl, rfl, rfl, fun _ _ => rfl⟩ (fun hS => ?_)
              refine wpAnyH_take (i := 0) rfl (by kernel_rfl) (by kernel_rfl) (by kernel_rfl) (fun _ _ _ h => h) (yieldsIf_load_one (by rfl) _ _ rfl _ rfl _ Try.isAgg3 (fun W' h => h.cell (by simp; omega) L10.out)) hS ?rest247
              simp only [List.getElem_toArray, List.getElem_cons_succ, List.getElem_cons_zero, Act.put, List.setIfInBounds_toArray, List.set_cons_succ, List.set_cons_zero]
              refine wpAnyH_take (i := 1) rfl (by kernel_rfl) (by kernel_rfl) (by kernel_rfl) (fun _ _ _ h => h) (yieldsIf_load_one (by rfl) _ _ rfl _ rfl _ Try.isAgg22 (fun W' h => h.cell (by simp; omega) L2.out)) hS ?rest248
              simp only [List.getElem_toArray, List.getElem_cons_succ, List.getElem_cons_zero, Act.put, List.setIfInBounds_toArray, List.set_cons_succ, List.set_cons_zero]
              refine wpAnyH_take (i := 2) (v := ?v249) rfl (by kernel_rfl) (by kernel_rfl) (by kernel_rfl) (fun _ _ _ h => h) (Or.inl ⟨by rfl, ?hy249⟩) hS ?rest249
              case hy249 => (intro W hW; go_simp; first | with_reducible rfl | (go_bits; first | with_reducible rfl | (go_simp; with_reducible rfl)))
              simp only [List.getElem_toArray, List.getElem_cons_succ, List.getElem_cons_zero, Act.put, List.setIfInBounds_toArray, List.set_cons_succ, List.set_cons_zero]
              refine wpAnyH_take (i := 3) (v := ?v250) rfl (by kernel_rfl) (by kernel_rfl) (by kernel_rfl) (fun _ _ _ h => h) (Or.inl ⟨by rfl, ?hy250⟩) hS ?rest250
              case hy250 => (intro W hW; go_simp; first | with_reducible rfl | (go_bits; first | with_reducible rfl | (go_simp; with_reducible rfl)))
              simp only [List.getElem_toArray, List.getElem_cons_succ, List.getElem_cons_zero, Act.put, List.setIfInBounds_toArray, List.set_cons_succ, List.set_cons_zero]
              refine wpAnyH_take (i := 4) (v := ?v251) rfl (by kernel_rfl) (by kernel_rfl) (by kernel_rfl) (fun _ _ _ h => h) (Or.inl ⟨by rfl, ?hy251⟩) hS ?rest251
              case hy251 => (intro W hW; go_simp; first | with_reducible rfl | (go_bits; first | with_reducible rfl | (go_simp; with_reducible rfl)))
              simp only [List.getElem_toArray, List.getElem_cons_succ, List.getElem_cons_zero, Act.put, List.setIfInBounds_toArray, List.set_cons_succ, List.set_cons_zero]
              refine wpAnyH_take (i := 5) (v := undef) rfl (by kernel_rfl) (by kernel_rfl) (by kernel_rfl) (fun _ _ _ h => h) (Or.inr ⟨by rfl, rfl⟩) hS ?rest252
              simp only [List.getElem_toArray, List.getElem_cons_succ, List.getElem_cons_zero, Act.put, List.setIfInBounds_toArray, List.set_cons_succ, List.set_cons_zero]
              refine wpAnyH_take (i := 6) (v := undef) rfl (by kernel_rfl) (by kernel_rfl) (by kernel_rfl) (fun _ _ _ h => h) (Or.inr ⟨by rfl, rfl⟩) hS ?rest253
              simp only [List.getElem_toArray, List.getElem_cons_succ, List.getElem_cons_zero, Act.put, List.setIfInBounds_toArray, List.set_cons_succ, List.set_cons_zero]
              refine wpAnyH_take (i := 7) (v := undef) rfl (by kernel_rfl) (by kernel_rfl) (by kernel_rfl) (fun _ _ _ h => h) (Or.inr ⟨by rfl, rfl⟩) hS ?rest254
              simp only [List.getElem_toArray, List.getElem_cons_succ, List.getElem_cons_zero, Act.put, List.setIfInBounds_toArray, List.set_cons_succ, List.set_cons_zero]
              refine wpAnyH_take (i := 8) (v := ?v255) rfl (by kernel_rfl) (by kernel_rfl) (by kernel_rfl) (fun _ _ _ h => h) (Or.inl ⟨by rfl, ?hy255⟩) hS ?rest255
              case hy255 => (intro W hW; go_simp; first | with_reducible rfl | (go_bits; first | with_reducible rfl | (go_simp; with_reducible rfl)))
              simp only [List.getElem_toArray, List.getElem_cons_succ, List.getElem_cons_zero, Act.put, List.setIfInBounds_toArray, List.set_cons_succ, List.set_cons_zero]
              refine wpAnyH_take (i := 9) (v := ?v256) rfl (by kernel_rfl) (by kernel_rfl) (by kernel_rfl) (fun _ _ _ h => h) (Or.inl ⟨by rfl, ?hy256⟩) hS ?rest256
              case hy256 => (intro W hW; go_simp; first | with_reducible rfl | (go_bits; first | with_reducible rfl | (go_simp; with_reducible rfl)))
              simp only [List.getElem_toArray, List.getElem_cons_succ, List.getElem_cons_zero, Act.put, List.setIfInBounds_toArray, List.set_cons_succ, List.set_cons_zero]
              refine wpAnyH_take (i := 10) (v := ?v257) rfl (by kernel_rfl) (by kernel_rfl) (by kernel_rfl) (fun _ _ _ h => h) (Or.inl ⟨by rfl, ?hy257⟩) hS ?rest257
              case hy257 => (intro W hW; go_simp; first | with_reducible rfl | (go_bits; first | with_reducible rfl | (go_simp; with_reducible rfl)))
              simp only [List.getElem_toArray, List.getElem_cons_succ, List.getElem_cons_zero, Act.put, List.setIfInBounds_toArray, List.set_cons_succ, List.set_cons_zero]
              refine wpAnyH_take (i := 11) rfl (by kernel_rfl) (by kernel_rfl) (by kernel_rfl) (fun _ _ _ h => h) (yieldsIf_load_one (by rfl) _ _ rfl _ rfl _ Try.isAgg22 (fun W' h => h.cell (by simp; omega) L2.out)) hS ?rest258
              simp only [List.getElem_toArray, List.getElem_cons_succ, List.getElem_cons_zero, Act.put, List.setIfInBounds_toArray, List.set_cons_succ, List.set_cons_zero]
              refine wpAnyH_take (i := 12) (v := ?v259) rfl (by kernel_rfl) (by kernel_rfl) (by kernel_rfl) (fun _ _ _ h => h) (Or.inl ⟨by rfl, ?hy259⟩) hS ?rest259
              case hy259 => (intro W hW; go_simp; first | with_reducible rfl | (go_bits; first | with_reducible rfl | (go_simp; with_reducible rfl)))
              simp only [List.getElem_toArray, List.getElem_cons_succ, List.getElem_cons_zero, Act.put, List.setIfInBounds_toArray, List.set_cons_succ, List.set_cons_zero]
              refine wpAnyH_take (i := 13) (v := ?v260) rfl (by kernel_rfl) (by kernel_rfl) (by kernel_rfl) (fun _ _ _ h => h) (Or.inl ⟨by rfl, ?hy260⟩) hS ?rest260
              case hy260 => (intro W hW; go_simp; first | with_reducible rfl | (go_bits; first | with_reducible rfl | (go_simp; with_reducible rfl)))
              simp only [List.getElem_toArray, List.getElem_cons_succ, List.getElem_cons_zero, Act.put, List.setIfInBounds_toArray, List.set_cons_succ, List.set_cons_zero]
              refine wpAnyH_take (i := 14) (v := ?v261) rfl (by kernel_rfl) (by kernel_rfl) (by kernel_rfl) (fun _ _ _ h => h) (Or.inl ⟨by rfl, ?hy261⟩) hS ?rest261
              case hy261 => (intro W hW; go_simp; first | with_reducible rfl | (go_bits; first | with_reducible rfl | (go_simp; with_reducible rfl)))
              simp only [List.getElem_toArray, List.getElem_cons_succ, List.getElem_cons_zero, Act.put, List.setIfInBounds_toArray, List.set_cons_succ, List.set_cons_zero]
              refine wpAnyH_take (i := 15) (v := ?v262) rfl (by kernel_rfl) (by kernel_rfl) (by kernel_rfl) (fun _ _ _ h => h) (Or.inl ⟨by rfl, ?hy262⟩) hS ?rest262
              case hy262 => (intro W hW; go_simp; first | with_reducible rfl | (go_bits; first | with_reducible rfl | (go_simp; with_reducible rfl)))
              simp only [List.getElem_toArray, List.getElem_cons_succ, List.getElem_cons_zero, Act.put, List.setIfInBounds_toArray, List.set_cons_succ, List.set_cons_zero]
              refine wpAnyH_take (i := 16) (v := ?v263) rfl (by kernel_rfl) (by kernel_rfl) (by kernel_rfl) (fun _ _ _ h => h) (Or.inl ⟨by rfl, ?hy263⟩) hS ?rest263
              case hy263 => (intro W hW; go_simp; first | with_reducible rfl | (go_bits; first | with_reducible rfl | (go_simp; with_reducible rfl)))
              simp only [List.getElem_toArray, List.getElem_cons_succ, List.getElem_cons_zero, Act.put, List.setIfInBounds_toArray, List.set_cons_succ, List.set_cons_zero]
              refine wpAnyH_take (i := 17) (v := ?v264) rfl (by kernel_rfl) (by kernel_rfl) (by kernel_rfl) (fun _ _ _ h => h) (Or.inl ⟨by rfl, ?hy264⟩) hS ?rest264
              case hy264 => (intro W hW; go_simp; first | with_reducible rfl | (go_bits; first | with_reducible rfl | (go_simp; with_reducible rfl)))
              simp only [List.getElem_toArray, List.getElem_cons_succ, List.getElem_cons_zero, Act.put, List.setIfInBounds_toArray, List.set_cons_succ, List.set_cons_zero]
              refine wpAnyH_take (i := 18) (v := ?v265) rfl (by kernel_rfl) (by kernel_rfl) (by kernel_rfl) (fun _ _ _ h => h) (Or.inl ⟨by rfl, ?hy265⟩) hS ?rest265
              case hy265 => (intro W hW; go_simp; first | with_reducible rfl | (go_bits; first | with_reducible rfl | (go_simp; with_reducible rfl)))
              simp only [List.getElem_toArray, List.getElem_cons_succ, List.getElem_cons_zero, Act.put, List.setIfInBounds_toArray, List.set_cons_succ, List.set_cons_zero]
              refine wpAnyH_take (i := 19) (v := ?v266) rfl (by kernel_rfl) (by kernel_rfl) (by kernel_rfl) (fun _ _ _ h => h) (Or.inl ⟨by rfl, ?hy266⟩) hS ?rest266
              case hy266 => (intro W hW; go_simp; first | with_reducible rfl | (go_bits; first | with_reducible rfl | (go_simp; with_reducible rfl)))
              simp only [List.getElem_toArray, List.getElem_cons_succ, List.getElem_cons_zero, Act.put, List.setIfInBounds_toArray, List.set_cons_succ, List.set_cons_zero]
              refine wpAnyH_take (i := 20) rfl (by kernel_rfl) (by kernel_rfl) (by kernel_rfl) (fun _ _ _ h => h) (yieldsIf_load_id (by rfl) _ _ rfl _ rfl _ (by kernel_rfl) (fun W' h => h.id_at (by simp; omega) LP.out)) hS ?rest267
              simp only [List.getElem_toArray, List.getElem_cons_succ, List.getElem_cons_zero, Act.put, List.setIfInBounds_toArray, List.set_cons_succ, List.set_cons_zero]
              refine wpAnyH_take (i := 21) rfl (by kernel_rfl) (by kernel_rfl) (by kernel_rfl) (fun _ _ _ h => h) (yieldsIf_load_one (by rfl) _ _ rfl _ rfl _ Try.isAgg24 (fun W' h => h.cell (by simp; omega) L5.out)) hS ?rest268
              simp only [List.getElem_toArray, List.getElem_cons_succ, List.getElem_cons_zero, Act.put, List.setIfInBounds_toArray, List.set_cons_succ, List.set_cons_zero]
              refine wpAnyH_take (i := 22) rfl (by kernel_rfl) (by kernel_rfl) (by kernel_rfl) (fun _ _ _ h => h) (yieldsIf_load_one (by rfl) _ _ rfl _ rfl _ Try.isAgg22 (fun W' h => h.cell (by simp; omega) L2.out)) hS ?rest269
              simp only [List.getElem_toArray, List.getElem_cons_succ, List.getElem_cons_zero, Act.put, List.setIfInBounds_toArray, List.set_cons_succ, List.set_cons_zero]
              refine wpAnyH_take (i := 23) (v := ?v270) rfl (by kernel_rfl) (by kernel_rfl) (by kernel_rfl) (fun _ _ _ h => h) (Or.inl ⟨by rfl, ?hy270⟩) hS ?rest270
              case hy270 => (intro W hW; go_simp; first | with_reducible rfl | (go_bits; first | with_reducible rfl | (go_simp; with_reducible rfl)))
              simp only [List.getElem_toArray, List.getElem_cons_succ, List.getElem_cons_zero, Act.put, List.setIfInBounds_toArray, List.set_cons_succ, List.set_cons_zero]
              refine wpAnyH_take (i := 24) (v := ?v271) rfl (by kernel_rfl) (by kernel_rfl) (by kernel_rfl) (fun _ _ _ h => h) (Or.inl ⟨by rfl, ?hy271⟩) hS ?rest271
              case hy271 => (intro W hW; go_simp; first | with_reducible rfl | (go_bits; first | with_reducible rfl | (go_simp; with_reducible rfl)))
              simp only [List.getElem_toArray, List.getElem_cons_succ, List.getElem_cons_zero, Act.put, List.setIfInBounds_toArray, List.set_cons_succ, List.set_cons_zero]
              refine wpAnyH_take (i := 25) (v := ?v272) rfl (by kernel_rfl) (by kernel_rfl) (by kernel_rfl) (fun _ _ _ h => h) (Or.inl ⟨by rfl, ?hy272⟩) hS ?rest272
              case hy272 => (intro W hW; go_simp; first | with_reducible rfl | (go_bits; first | with_reducible rfl | (go_simp; with_reducible rfl)))
              simp only [List.getElem_toArray, List.getElem_cons_succ, List.getElem_cons_zero, Act.put, List.setIfInBounds_toArray, List.set_cons_succ, List.set_cons_zero]
              refine wpAnyH_take (i := 26) rfl (by kernel_rfl) (by kernel_rfl) (by kernel_rfl) (fun _ _ _ h => h) (yieldsIf_load_id (by rfl) _ _ rfl _ rfl _ (by kernel_rfl) (fun W' h => h.id_at (by rw [Addr.add_block]; omega) LO.out)) hS ?rest273
              simp only [List.getElem_toArray, List.getElem_cons_succ, List.getElem_cons_zero, Act.put, List.setIfInBounds_toArray, List.set_cons_succ, List.set_cons_zero]
              refine wpAnyH_take (i := 27) (v := ?v274) rfl (by kernel_rfl) (by kernel_rfl) (by kernel_rfl) (fun _ _ _ h => h) (Or.inl ⟨by rfl, ?hy274⟩) hS ?rest274
              case hy274 => (intro W hW; go_simp; first | with_reducible rfl | (go_bits; first | with_reducible rfl | (go_simp; with_reducible rfl)))
              simp only [List.getElem_toArray, List.getElem_cons_succ, List.getElem_cons_zero, Act.put, List.setIfInBounds_toArray, List.set_cons_succ, List.set_cons_zero]
              refine wpAnyH_take (i := 28) (v := ?v275) rfl (by kernel_rfl) (by kernel_rfl) (by kernel_rfl) (fun _ _ _ h => h) (Or.inl ⟨by rfl, ?hy275⟩) hS ?rest275
              case hy275 => (intro W hW; go_simp; first | with_reducible rfl | (go_bits; first | with_reducible rfl | (go_simp; with_reducible rfl)))
              simp only [List.getElem_toArray, List.getElem_cons_succ, List.getElem_cons_zero, Act.put, List.setIfInBounds_toArray, List.set_cons_succ, List.set_cons_zero]
              refine wpAnyH_take (i := 29) (v := ?v276) rfl (by kernel_rfl) (by kernel_rfl) (by kernel_rfl) (fun _ _ _ h => h) (Or.inl ⟨by rfl, ?hy276⟩) hS ?rest276
              case hy276 => (intro W hW; go_simp; first | with_reducible rfl | (go_bits; first | with_reducible rfl | (go_simp; with_reducible rfl)))
              simp only [List.getElem_toArray, List.getElem_cons_succ, List.getElem_cons_zero, Act.put, List.setIfInBounds_toArray, List.set_cons_succ, List.set_cons_zero]
              refine wpAnyH_take (i := 30) (v := ?v277) rfl (by kernel_rfl) (by kernel_rfl) (by kernel_rfl) (fun _ _ _ h => h) (Or.inl ⟨by rfl, ?hy277⟩) hS ?rest277
              case hy277 => (intro W hW; go_simp; first | with_reducible rfl | (go_bits; first | with_reducible rfl | (go_simp; with_reducible rfl)))
              simp only [List.getElem_toArray, List.getElem_cons_succ, List.getElem_cons_zero, Act.put, List.setIfInBounds_toArray, List.set_cons_succ, List.set_cons_zero]
              refine wpAnyH_take (i := 31) (v := ?v278) rfl (by kernel_rfl) (by kernel_rfl) (by kernel_rfl) (fun _ _ _ h => h) (Or.inl ⟨by rfl, ?hy278⟩) hS ?rest278
              case hy278 => (intro W hW; go_simp; first | with_reducible rfl | (go_bits; first | with_reducible rfl | (go_simp; with_reducible rfl)))
              simp only [List.getElem_toArray, List.getElem_cons_succ, List.getElem_cons_zero, Act.put, List.setIfInBounds_toArray, List.set_cons_succ, List.set_cons_zero]
              refine wpAnyH_take (i := 32) rfl (by kernel_rfl) (by kernel_rfl) (by kernel_rfl) (fun _ _ _ h => h) (yieldsIf_load_one (by rfl) _ _ rfl _ rfl _ Try.isAgg22 (fun W' h => h.cell (by simp; omega) L2.out)) hS ?rest279
              simp only [List.getElem_toArray, List.getElem_cons_succ, List.getElem_cons_zero, Act.put, List.setIfInBounds_toArray, List.set_cons_succ, List.set_cons_zero]
              refine wpAnyH_take (i := 33) (v := ?v280) rfl (by kernel_rfl) (by kernel_rfl) (by kernel_rfl) (fun _ _ _ h => h) (Or.inl ⟨by rfl, ?hy280⟩) hS ?rest280
              case hy280 => (intro W hW; go_simp; first | with_reducible rfl | (go_bits; first | with_reducible rfl | (go_simp; with_reducible rfl)))
              simp only [List.getElem_toArray, List.getElem_cons_succ, List.getElem_cons_zero, Act.put, List.setIfInBounds_toArray, List.set_cons_succ, List.set_cons_zero]
              refine wpAnyH_take (i := 34) (v := ?v281) rfl (by kernel_rfl) (by kernel_rfl) (by kernel_rfl) (fun _ _ _ h => h) (Or.inl ⟨by rfl, ?hy281⟩) hS ?rest281
              case hy281 => (intro W hW; go_simp; first | with_reducible rfl | (go_bits; first | with_reducible rfl | (go_simp; with_reducible rfl)))
              simp only [List.getElem_toArray, List.getElem_cons_succ, List.getElem_cons_zero, Act.put, List.setIfInBounds_toArray, List.set_cons_succ, List.set_cons_zero]
              refine wpAnyH_take (i := 35) (v := ?v282) rfl (by kernel_rfl) (by kernel_rfl) (by kernel_rfl) (fun _ _ _ h => h) (Or.inl ⟨by rfl, ?hy282⟩) hS ?rest282
              case hy282 => (intro W hW; go_simp; first | with_reducible rfl | (go_bits; first | with_reducible rfl | (go_simp; with_reducible rfl)))
              simp only [List.getElem_toArray, List.getElem_cons_succ, List.getElem_cons_zero, Act.put, List.setIfInBounds_toArray, List.set_cons_succ, List.set_cons_zero]
              refine wpAnyH_take (i := 36) (v := ?v283) rfl (by kernel_rfl) (by kernel_rfl) (by kernel_rfl) (fun _ _ _ h => h) (Or.inl ⟨by rfl, ?hy283⟩) hS ?rest283
              case hy283 => (intro W hW; go_simp; first | with_reducible rfl | (go_bits; first | with_reducible rfl | (go_simp; with_reducible rfl)))
              simp only [List.getElem_toArray, List.getElem_cons_succ, List.getElem_cons_zero, Act.put, List.setIfInBounds_toArray, List.set_cons_succ, List.set_cons_zero]
              refine wpAnyH_take (i := 37) (v := ?v284) rfl (by kernel_rfl) (by kernel_rfl) (by kernel_rfl) (fun _ _ _ h => h) (Or.inl ⟨by rfl, ?hy284⟩) hS ?rest284
              case hy284 => (intro W hW; go_simp; first | with_reducible rfl | (go_bits; first | with_reducible rfl | (go_simp; with_reducible rfl)))
              simp only [List.getElem_toArray, List.getElem_cons_succ, List.getElem_cons_zero, Act.put, List.setIfInBounds_toArray, List.set_cons_succ, List.set_cons_zero]
              refine wpAnyH_take (i := 38) (v := ?v285) rfl (by kernel_rfl) (by kernel_rfl) (by kernel_rfl) (fun _ _ _ h => h) (Or.inl ⟨by rfl, ?hy285⟩) hS ?rest285
              case hy285 => (intro W hW; go_simp; first | with_reducible rfl | (go_bits; first | with_reducible rfl | (go_simp; with_reducible rfl)))
              simp only [List.getElem_toArray, List.getElem_cons_succ, List.getElem_cons_zero, Act.put, List.setIfInBounds_toArray, List.set_cons_succ, List.set_cons_zero]
              refine wpAnyH_take (i := 39) (v := ?v286) rfl (by kernel_rfl) (by kernel_rfl) (by kernel_rfl) (fun _ _ _ h => h) (Or.inl ⟨by rfl, ?hy286⟩) hS ?rest286
              case hy286 => (intro W hW; go_simp; first | with_reducible rfl | (go_bits; first | with_reducible rfl | (go_simp; with_reducible rfl)))
              simp only [List.getElem_toArray, List.getElem_cons_succ, List.getElem_cons_zero, Act.put, List.setIfInBounds_toArray, List.set_cons_succ, List.set_cons_zero]
              refine wpAnyH_ready (rs := [40]) (by kernel_rfl) (by simp) ?_
              refine AllReadyH.cons rfl (fun K hK => ?_) AllReadyH.nil
              rw [if_pos (by rfl)]
              simp only [List.getElem_toArray, List.getElem_cons_succ, List.getElem_cons_zero]
              have hc4 := L4.out.cell; have hf4 := L4.out.frozen
              have hDlt : D < W.heap.size := (Array.getElem?_eq_some_iff.1 HK.out).1
              have HKz : Hid (∀ W', NlS w16 (w.heap.size + 1 + 1) W' → W'.heap[D]? = some (.deferred (some []))) := Lib.hid (fun W' h => (h.rest D (by omega)).trans ((HB16.out.block D hDlt).trans HK.out))
              have HBz : Hid (∀ W', NlS w16 (w.heap.size + 1 + 1) W' → Below w.heap.size w W') := Lib.hid (fun W' h => (P9.out.trans (HB16.out.mono hWl)).trans ⟨h.os, h.tape, h.output, Nat.le_of_eq h.size.symm, fun k hk => h.rest k (by omega)⟩)
              have HC4 : Hid (Boxed (w16.drew.setCell ⟨w.heap.size + 1 + 1, 0, none⟩ (.bool true)) (w.heap.size + 1 + 1) 4 (.bool true)) := Lib.hid (Boxed.set (W := w16.drew) (.bool true) L4.out)
              go_simp
              refine hK.out _ _ ?s287 (fun hS => ?_)
              case s287 => exact (hS.set (.bool true))
              clear hK K
              clear hc4 hf4
              refine wpAnyH_done (by kernel_rfl) ?_ _
              refine norm_intro ?_
              have HS9 := Lib.hid hS
              clear hS
              go_wp2_with fail
              refine ⟨by simp, .inl ⟨_, _, rfl, run_takeDeferred (HKz.out _ HS9.out), ?_⟩⟩
              have hg9 := grownBy_putObj' (w16.drew.setCell ⟨w.heap.size + 1 + 1, 0, none⟩ (.bool true)) D (.deferred none)
              refine ⟨.bool true, results_cell rfl _ _ ⟨w.heap.size + 1 + 1, 0, none⟩ true rfl (HC4.out.kept hg9 (fun e => by injection e with e; omega)).cell, rfl, ?_⟩
              exact (HBz.out _ HS9.out).trans (belowK_b (w := w5) (by have := hBz.size; omega) _ D _ _ (by omega) (HKz.out _ HS9.out) rfl rfl)
          · have hm1 : ((j8 : Int) == (k : Int)) = false := by rw [beq_eq_false_iff_ne]; omega
            have hm2 : ((j8 : Int) == stop) = true := by rw [beq_iff_eq]; exact hst
            clear hst
            by_cases hn0 : k = 0
            · exfalso; omega
            · have hn0' : 0 < k := by omega
              have hWl := h9.size
              have e1 := h6.cell
              have P3 := Lib.hid h3; have P4 := Lib.hid h4; have P5 := Lib.hid h5; have P6 := Lib.hid h6; have P7 := Lib.hid h7; have P8 := Lib.hid h8; have P9 := Lib.hid h9; have HK := Lib.hid hK
              clear h3 h4 h5 h6 h7 h8 h9 hK
              have t5 : True := trivial
              have t6 : True := trivial
              have t7 : True := trivial
              have t8 : True := trivial
              refine wpIn_wide.2 ?_
              go_wp2_with (first
                | (go_at_call 19; refine (parent_calls _ ls c2 k Hln.out hn0' (by omega) _ P7.out).mono ?_; rintro e w11 ⟨rfl, hb11⟩; have HB11 := Lib.hid hb11; clear hb11)
                | (have _t := t5; refine wpList_alloc (o := ⟨some 13, _, _, _, _, _⟩) rfl rfl 33 (idc zid).toArray (by kernel_rfl) ?_; intro w12 hb12 hg12 hs12; have Hb12 := Lib.hid hb12; have Hg12 := Lib.hid hg12; clear hb12 hg12 hs12; simp only [Act.put, List.setIfInBounds_toArray, List.set_cons_succ, List.set_cons_zero]; clear t5)
                | (have _t := t6; refine wpList_store_box rfl 33 _ _ rfl w11.heap.size (idc (idAt ls (k - 1))) rfl rfl (t := 33) Hb12.out (by simp [idc_length, idAt_len P7.out.len (k - 1), zid_len]) (by rw [idc_length, idAt_len P7.out.len (k - 1)]; kernel_rfl) (idc_one _) ?_; intro w13 hb13 hg13 hs13; have HB13 := Lib.hid (HB11.out.trans ((grownBy_below (grownBy_new Hg12.out hg13 (Nat.le_refl _))).mono HB11.out.size)); have Hp13 := Lib.hid hb13; have c13 := (Boxed.below P6.out HB13.out P6.out.lt).cell; clear hb13 hg13 hs13; simp only [Act.put, List.setIfInBounds_toArray, List.set_cons_succ, List.set_cons_zero]; clear t6)
                | (go_at_call 16; refine (nearest_nil _ _ k (by omega) _).mono ?_; rintro e w14 ⟨rfl, hb14⟩; have HB14 := Lib.hid hb14; clear hb14)
                | (have _t := t7; refine wpList_alloc (o := ⟨some 15, _, _, _, _, _⟩) rfl rfl 33 (idc zid).toArray (by kernel_rfl) ?_; intro w15 hb15 hg15 hs15; have Hb15 := Lib.hid hb15; have Hg15 := Lib.hid hg15; clear hb15 hg15 hs15; simp only [Act.put, List.setIfInBounds_toArray, List.set_cons_succ, List.set_cons_zero]; clear t7)
                | (have _t := t8; refine wpList_store_box rfl 33 _ _ rfl w14.heap.size (idc zid) rfl rfl (t := 33) Hb15.out (by simp [idc_length, zid_len]) (by rw [idc_length, zid_len]; kernel_rfl) (idc_one _) ?_; intro w16 hb16 hg16 hs16; have HB16' := Lib.hid (HB14.out.trans ((grownBy_below (grownBy_new Hg15.out hg16 (Nat.le_refl _))).mono HB14.out.size)); have HB16 := Lib.hid (HB13.out.trans (HB16'.out.mono HB13.out.size)); have Hp16 := Lib.hid (Hp13.out.below HB16'.out Hp13.out.lt); clear hb16 hg16 hs16; simp only [Act.put, List.setIfInBounds_toArray, List.set_cons_succ, List.set_cons_zero]; clear t8))
              have hsz16 : W.heap.size ≤ w16.heap.size := HB16.out.size
              obtain ⟨j9, hj9⟩ : ∃ j9, k - 1 = j9 := ⟨_, rfl⟩
              have hj9I : (k : Int) - 1 = (j9 : Int) := by omega
              have q1 : (0 : Int) < k := by omega
              have q2 : (j9 : Int) < k := by omega
              have q3 : (0 : Int) ≤ j9 := by omega
              have Q7 := Lib.hid (P7.out.below HB16.out)
              obtain ⟨ad4, x4, hA4, hx4, -, hat4⟩ := Q7.out.at_ (k := j9) (by rw [Hln.out]; omega)
              cases hA4
              have hxx4 : idAt ls j9 = x4 := by unfold idAt; rw [hx4]; rfl
              have hlo := H82.out _ rfl
              have hs11 : W.heap.size ≤ w11.heap.size := HB11.out.size
              have hadb : ad4.block < w5.heap.size := hAs (by rintro rfl; have := Hln.out; simp at this; omega) _ rfl
              rw [← hxx4, ← hj9] at hat4
              have hx32 := idAt_len Q7.out.len (k - 1)
              have L10 := Lib.hid (Boxed.below P8.out HB16.out P8.out.lt).cell
              have L2 := Lib.hid (Boxed.below P3.out HB16.out P3.out.lt).cell
              have L3 := Lib.hid (Boxed.below P4.out HB16.out P4.out.lt).cell
              have L4 := Lib.hid (Boxed.below P5.out HB16.out P5.out.lt)
              have L5 := Lib.hid (Boxed.below P6.out HB16.out P6.out.lt).cell
              have LP := Lib.hid (Hp16.out.id_at hx32)
              have LO := Lib.hid hat4
              have Hj9 := Lib.hid hj9
              rw [hj9] at *
              clear hat4 hx4 hxx4 hj9
              refine Code.wp_mono norm_mono ?_
              refine wp_region_held_drew (S := fun W' => NlS w16 (w.heap.size + 1 + 1) W') (by kernel_rfl) ⟨rfl, rfl, rfl, rfl, fun _ _ => rfl⟩ (fun hS => ?_)
              refine wpAnyH_take (i := 0) rfl (by kernel_rfl) (by kernel_rfl) (by kernel_rfl) (fun _ _ _ h => h) (yieldsIf_load_one (by rfl) _ _ rfl _ rfl _ Try.isAgg3 (fun W' h => h.cell (by simp; omega) L10.out)) hS ?rest288
              simp only [List.getElem_toArray, List.getElem_cons_succ, List.getElem_cons_zero, Act.put, List.setIfInBounds_toArray, List.set_cons_succ, List.set_cons_zero]
              refine wpAnyH_take (i := 1) rfl (by kernel_rfl) (by kernel_rfl) (by kernel_rfl) (fun _ _ _ h => h) (yieldsIf_load_one (by rfl) _ _ rfl _ rfl _ Try.isAgg22 (fun W' h => h.cell (by simp; omega) L2.out)) hS ?rest289
              simp only [List.getElem_toArray, List.getElem_cons_succ, List.getElem_cons_zero, Act.put, List.setIfInBounds_toArray, List.set_cons_succ, List.set_cons_zero]
              refine wpAnyH_take (i := 2) (v := ?v290) rfl (by kernel_rfl) (by kernel_rfl) (by kernel_rfl) (fun _ _ _ h => h) (Or.inl ⟨by rfl, ?hy290⟩) hS ?rest290
              case hy290 => (intro W hW; go_simp; first | with_reducible rfl | (go_bits; first | with_reducible rfl | (go_simp; with_reducible rfl)))
              simp only [List.getElem_toArray, List.getElem_cons_succ, List.getElem_cons_zero, Act.put, List.setIfInBounds_toArray, List.set_cons_succ, List.set_cons_zero]
              refine wpAnyH_take (i := 3) (v := ?v291) rfl (by kernel_rfl) (by kernel_rfl) (by kernel_rfl) (fun _ _ _ h => h) (Or.inl ⟨by rfl, ?hy291⟩) hS ?rest291
              case hy291 => (intro W hW; go_simp; first | with_reducible rfl | (go_bits; first | with_reducible rfl | (go_simp; with_reducible rfl)))
              simp only [List.getElem_toArray, List.getElem_cons_succ, List.getElem_cons_zero, Act.put, List.setIfInBounds_toArray, List.set_cons_succ, List.set_cons_zero]
              refine wpAnyH_take (i := 4) (v := ?v292) rfl (by kernel_rfl) (by kernel_rfl) (by kernel_rfl) (fun _ _ _ h => h) (Or.inl ⟨by rfl, ?hy292⟩) hS ?rest292
              case hy292 => (intro W hW; go_simp; first | with_reducible rfl | (go_bits; first | with_reducible rfl | (go_simp; with_reducible rfl)))
              simp only [List.getElem_toArray, List.getElem_cons_succ, List.getElem_cons_zero, Act.put, List.setIfInBounds_toArray, List.set_cons_succ, List.set_cons_zero]
              refine wpAnyH_take (i := 5) rfl (by kernel_rfl) (by kernel_rfl) (by kernel_rfl) (fun _ _ _ h => h) (yieldsIf_load_one (by rfl) _ _ rfl _ rfl _ Try.isAgg3 (fun W' h => h.cell (by simp; omega) L10.out)) hS ?rest293
              simp only [List.getElem_toArray, List.getElem_cons_succ, List.getElem_cons_zero, Act.put, List.setIfInBounds_toArray, List.set_cons_succ, List.set_cons_zero]
              refine wpAnyH_take (i := 6) rfl (by kernel_rfl) (by kernel_rfl) (by kernel_rfl) (fun _ _ _ h => h) (yieldsIf_load_one (by rfl) _ _ rfl _ rfl _ Try.isAgg3 (fun W' h => h.cell (by simp) L3.out)) hS ?rest294
              simp only [List.getElem_toArray, List.getElem_cons_succ, List.getElem_cons_zero, Act.put, List.setIfInBounds_toArray, List.set_cons_succ, List.set_cons_zero]
              refine wpAnyH_take (i := 7) (v := ?v295) rfl (by kernel_rfl) (by kernel_rfl) (by kernel_rfl) (fun _ _ _ h => h) (Or.inl ⟨by rfl, ?hy295⟩) hS ?rest295
              case hy295 => (intro W hW; go_simp; first | with_reducible rfl | (go_bits; first | with_reducible rfl | (go_simp; with_reducible rfl)))
              simp only [List.getElem_toArray, List.getElem_cons_succ, List.getElem_cons_zero, Act.put, List.setIfInBounds_toArray, List.set_cons_succ, List.set_cons_zero]
              refine wpAnyH_take (i := 8) (v := ?v296) rfl (by kernel_rfl) (by kernel_rfl) (by kernel_rfl) (fun _ _ _ h => h) (Or.inl ⟨by rfl, ?hy296⟩) hS ?rest296
              case hy296 => (intro W hW; go_simp; first | with_reducible rfl | (go_bits; first | with_reducible rfl | (go_simp; with_reducible rfl)))
              simp only [List.getElem_toArray, List.getElem_cons_succ, List.getElem_cons_zero, Act.put, List.setIfInBounds_toArray, List.set_cons_succ, List.set_cons_zero]
              refine wpAnyH_take (i := 9) (v := ?v297) rfl (by kernel_rfl) (by kernel_rfl) (by kernel_rfl) (fun _ _ _ h => h) (Or.inl ⟨by rfl, ?hy297⟩) hS ?rest297
              case hy297 => (intro W hW; go_simp; first | with_reducible rfl | (go_bits; first | with_reducible rfl | (go_simp; with_reducible rfl)))
              simp only [List.getElem_toArray, List.getElem_cons_succ, List.getElem_cons_zero, Act.put, List.setIfInBounds_toArray, List.set_cons_succ, List.set_cons_zero]
              refine wpAnyH_take (i := 10) (v := ?v298) rfl (by kernel_rfl) (by kernel_rfl) (by kernel_rfl) (fun _ _ _ h => h) (Or.inl ⟨by rfl, ?hy298⟩) hS ?rest298
              case hy298 => (intro W hW; go_simp; first | with_reducible rfl | (go_bits; first | with_reducible rfl | (go_simp; with_reducible rfl)))
              simp only [List.getElem_toArray, List.getElem_cons_succ, List.getElem_cons_zero, Act.put, List.setIfInBounds_toArray, List.set_cons_succ, List.set_cons_zero]
              refine wpAnyH_take (i := 11) rfl (by kernel_rfl) (by kernel_rfl) (by kernel_rfl) (fun _ _ _ h => h) (yieldsIf_load_one (by rfl) _ _ rfl _ rfl _ Try.isAgg22 (fun W' h => h.cell (by simp; omega) L2.out)) hS ?rest299
              simp only [List.getElem_toArray, List.getElem_cons_succ, List.getElem_cons_zero, Act.put, List.setIfInBounds_toArray, List.set_cons_succ, List.set_cons_zero]
              refine wpAnyH_take (i := 12) (v := ?v300) rfl (by kernel_rfl) (by kernel_rfl) (by kernel_rfl) (fun _ _ _ h => h) (Or.inl ⟨by rfl, ?hy300⟩) hS ?rest300
              case hy300 => (intro W hW; go_simp; first | with_reducible rfl | (go_bits; first | with_reducible rfl | (go_simp; with_reducible rfl)))
              simp only [List.getElem_toArray, List.getElem_cons_succ, List.getElem_cons_zero, Act.put, List.setIfInBounds_toArray, List.set_cons_succ, List.set_cons_zero]
              refine wpAnyH_take (i := 13) (v := ?v301) rfl (by kernel_rfl) (by kernel_rfl) (by kernel_rfl) (fun _ _ _ h => h) (Or.inl ⟨by rfl, ?hy301⟩) hS ?rest301
              case hy301 => (intro W hW; go_simp; first | with_reducible rfl | (go_bits; first | with_reducible rfl | (go_simp; with_reducible rfl)))
              simp only [List.getElem_toArray, List.getElem_cons_succ, List.getElem_cons_zero, Act.put, List.setIfInBounds_toArray, List.set_cons_succ, List.set_cons_zero]
              refine wpAnyH_take (i := 14) (v := ?v302) rfl (by kernel_rfl) (by kernel_rfl) (by kernel_rfl) (fun _ _ _ h => h) (Or.inl ⟨by rfl, ?hy302⟩) hS ?rest302
              case hy302 => (intro W hW; go_simp; first | with_reducible rfl | (go_bits; first | with_reducible rfl | (go_simp; with_reducible rfl)))
              simp only [List.getElem_toArray, List.getElem_cons_succ, List.getElem_cons_zero, Act.put, List.setIfInBounds_toArray, List.set_cons_succ, List.set_cons_zero]
              refine wpAnyH_take (i := 15) (v := ?v303) rfl (by kernel_rfl) (by kernel_rfl) (by kernel_rfl) (fun _ _ _ h => h) (Or.inl ⟨by rfl, ?hy303⟩) hS ?rest303
              case hy303 => (intro W hW; go_simp; first | with_reducible rfl | (go_bits; first | with_reducible rfl | (go_simp; with_reducible rfl)))
              simp only [List.getElem_toArray, List.getElem_cons_succ, List.getElem_cons_zero, Act.put, List.setIfInBounds_toArray, List.set_cons_succ, List.set_cons_zero]
              refine wpAnyH_take (i := 16) (v := ?v304) rfl (by kernel_rfl) (by kernel_rfl) (by kernel_rfl) (fun _ _ _ h => h) (Or.inl ⟨by rfl, ?hy304⟩) hS ?rest304
              case hy304 => (intro W hW; go_simp; first | with_reducible rfl | (go_bits; first | with_reducible rfl | (go_simp; with_reducible rfl)))
              simp only [List.getElem_toArray, List.getElem_cons_succ, List.getElem_cons_zero, Act.put, List.setIfInBounds_toArray, List.set_cons_succ, List.set_cons_zero]
              refine wpAnyH_take (i := 17) (v := ?v305) rfl (by kernel_rfl) (by kernel_rfl) (by kernel_rfl) (fun _ _ _ h => h) (Or.inl ⟨by rfl, ?hy305⟩) hS ?rest305
              case hy305 => (intro W hW; go_simp; first | with_reducible rfl | (go_bits; first | with_reducible rfl | (go_simp; with_reducible rfl)))
              simp only [List.getElem_toArray, List.getElem_cons_succ, List.getElem_cons_zero, Act.put, List.setIfInBounds_toArray, List.set_cons_succ, List.set_cons_zero]
              refine wpAnyH_take (i := 18) (v := ?v306) rfl (by kernel_rfl) (by kernel_rfl) (by kernel_rfl) (fun _ _ _ h => h) (Or.inl ⟨by rfl, ?hy306⟩) hS ?rest306
              case hy306 => (intro W hW; go_simp; first | with_reducible rfl | (go_bits; first | with_reducible rfl | (go_simp; with_reducible rfl)))
              simp only [List.getElem_toArray, List.getElem_cons_succ, List.getElem_cons_zero, Act.put, List.setIfInBounds_toArray, List.set_cons_succ, List.set_cons_zero]
              refine wpAnyH_take (i := 19) (v := ?v307) rfl (by kernel_rfl) (by kernel_rfl) (by kernel_rfl) (fun _ _ _ h => h) (Or.inl ⟨by rfl, ?hy307⟩) hS ?rest307
              case hy307 => (intro W hW; go_simp; first | with_reducible rfl | (go_bits; first | with_reducible rfl | (go_simp; with_reducible rfl)))
              simp only [List.getElem_toArray, List.getElem_cons_succ, List.getElem_cons_zero, Act.put, List.setIfInBounds_toArray, List.set_cons_succ, List.set_cons_zero]
              refine wpAnyH_take (i := 20) rfl (by kernel_rfl) (by kernel_rfl) (by kernel_rfl) (fun _ _ _ h => h) (yieldsIf_load_id (by rfl) _ _ rfl _ rfl _ (by kernel_rfl) (fun W' h => h.id_at (by simp; omega) LP.out)) hS ?rest308
              simp only [List.getElem_toArray, List.getElem_cons_succ, List.getElem_cons_zero, Act.put, List.setIfInBounds_toArray, List.set_cons_succ, List.set_cons_zero]
              refine wpAnyH_take (i := 21) rfl (by kernel_rfl) (by kernel_rfl) (by kernel_rfl) (fun _ _ _ h => h) (yieldsIf_load_one (by rfl) _ _ rfl _ rfl _ Try.isAgg24 (fun W' h => h.cell (by simp; omega) L5.out)) hS ?rest309
              simp only [List.getElem_toArray, List.getElem_cons_succ, List.getElem_cons_zero, Act.put, List.setIfInBounds_toArray, List.set_cons_succ, List.set_cons_zero]
              refine wpAnyH_take (i := 22) rfl (by kernel_rfl) (by kernel_rfl) (by kernel_rfl) (fun _ _ _ h => h) (yieldsIf_load_one (by rfl) _ _ rfl _ rfl _ Try.isAgg22 (fun W' h => h.cell (by simp; omega) L2.out)) hS ?rest310
              simp only [List.getElem_toArray, List.getElem_cons_succ, List.getElem_cons_zero, Act.put, List.setIfInBounds_toArray, List.set_cons_succ, List.set_cons_zero]
              refine wpAnyH_take (i := 23) (v := ?v311) rfl (by kernel_rfl) (by kernel_rfl) (by kernel_rfl) (fun _ _ _ h => h) (Or.inl ⟨by rfl, ?hy311⟩) hS ?rest311
              case hy311 => (intro W hW; go_simp; first | with_reducible rfl | (go_bits; first | with_reducible rfl | (go_simp; with_reducible rfl)))
              simp only [List.getElem_toArray, List.getElem_cons_succ, List.getElem_cons_zero, Act.put, List.setIfInBounds_toArray, List.set_cons_succ, List.set_cons_zero]
              refine wpAnyH_take (i := 24) (v := ?v312) rfl (by kernel_rfl) (by kernel_rfl) (by kernel_rfl) (fun _ _ _ h => h) (Or.inl ⟨by rfl, ?hy312⟩) hS ?rest312
              case hy312 => (intro W hW; go_simp; first | with_reducible rfl | (go_bits; first | with_reducible rfl | (go_simp; with_reducible rfl)))
              simp only [List.getElem_toArray, List.getElem_cons_succ, List.getElem_cons_zero, Act.put, List.setIfInBounds_toArray, List.set_cons_succ, List.set_cons_zero]
              refine wpAnyH_take (i := 25) (v := ?v313) rfl (by kernel_rfl) (by kernel_rfl) (by kernel_rfl) (fun _ _ _ h => h) (Or.inl ⟨by rfl, ?hy313⟩) hS ?rest313
              case hy313 => (intro W hW; go_simp; first | with_reducible rfl | (go_bits; first | with_reducible rfl | (go_simp; with_reducible rfl)))
              simp only [List.getElem_toArray, List.getElem_cons_succ, List.getElem_cons_zero, Act.put, List.setIfInBounds_toArray, List.set_cons_succ, List.set_cons_zero]
              refine wpAnyH_take (i := 26) rfl (by kernel_rfl) (by kernel_rfl) (by kernel_rfl) (fun _ _ _ h => h) (yieldsIf_load_id (by rfl) _ _ rfl _ rfl _ (by kernel_rfl) (fun W' h => h.id_at (by rw [Addr.add_block]; omega) LO.out)) hS ?rest314
              simp only [List.getElem_toArray, List.getElem_cons_succ, List.getElem_cons_zero, Act.put, List.setIfInBounds_toArray, List.set_cons_succ, List.set_cons_zero]
              refine wpAnyH_take (i := 27) (v := ?v315) rfl (by kernel_rfl) (by kernel_rfl) (by kernel_rfl) (fun _ _ _ h => h) (Or.inl ⟨by rfl, ?hy315⟩) hS ?rest315
              case hy315 => (intro W hW; go_simp; first | with_reducible rfl | (go_bits; first | with_reducible rfl | (go_simp; with_reducible rfl)))
              simp only [List.getElem_toArray, List.getElem_cons_succ, List.getElem_cons_zero, Act.put, List.setIfInBounds_toArray, List.set_cons_succ, List.set_cons_zero]
              refine wpAnyH_take (i := 28) (v := ?v316) rfl (by kernel_rfl) (by kernel_rfl) (by kernel_rfl) (fun _ _ _ h => h) (Or.inl ⟨by rfl, ?hy316⟩) hS ?rest316
              case hy316 => (intro W hW; go_simp; first | with_reducible rfl | (go_bits; first | with_reducible rfl | (go_simp; with_reducible rfl)))
              simp only [List.getElem_toArray, List.getElem_cons_succ, List.getElem_cons_zero, Act.put, List.setIfInBounds_toArray, List.set_cons_succ, List.set_cons_zero]
              refine wpAnyH_take (i := 29) (v := ?v317) rfl (by kernel_rfl) (by kernel_rfl) (by kernel_rfl) (fun _ _ _ h => h) (Or.inl ⟨by rfl, ?hy317⟩) hS ?rest317
              case hy317 => (intro W hW; go_simp; first | with_reducible rfl | (go_bits; first | with_reducible rfl | (go_simp; with_reducible rfl)))
              simp only [List.getElem_toArray, List.getElem_cons_succ, List.getElem_cons_zero, Act.put, List.setIfInBounds_toArray, List.set_cons_succ, List.set_cons_zero]
              refine wpAnyH_take (i := 30) (v := ?v318) rfl (by kernel_rfl) (by kernel_rfl) (by kernel_rfl) (fun _ _ _ h => h) (Or.inl ⟨by rfl, ?hy318⟩) hS ?rest318
              case hy318 => (intro W hW; go_simp; first | with_reducible rfl | (go_bits; first | with_reducible rfl | (go_simp; with_reducible rfl)))
              simp only [List.getElem_toArray, List.getElem_cons_succ, List.getElem_cons_zero, Act.put, List.setIfInBounds_toArray, List.set_cons_succ, List.set_cons_zero]
              refine wpAnyH_take (i := 31) (v := ?v319) rfl (by kernel_rfl) (by kernel_rfl) (by kernel_rfl) (fun _ _ _ h => h) (Or.inl ⟨by rfl, ?hy319⟩) hS ?rest319
              case hy319 => (intro W hW; go_simp; first | with_reducible rfl | (go_bits; first | with_reducible rfl | (go_simp; with_reducible rfl)))
              simp only [List.getElem_toArray, List.getElem_cons_succ, List.getElem_cons_zero, Act.put, List.setIfInBounds_toArray, List.set_cons_succ, List.set_cons_zero]
              refine wpAnyH_take (i := 32) rfl (by kernel_rfl) (by kernel_rfl) (by kernel_rfl) (fun _ _ _ h => h) (yieldsIf_load_one (by rfl) _ _ rfl _ rfl _ Try.isAgg22 (fun W' h => h.cell (by simp; omega) L2.out)) hS ?rest320
              simp only [List.getElem_toArray, List.getElem_cons_succ, List.getElem_cons_zero, Act.put, List.setIfInBounds_toArray, List.set_cons_succ, List.set_cons_zero]
              refine wpAnyH_take (i := 33) (v := ?v321) rfl (by kernel_rfl) (by kernel_rfl) (by kernel_rfl) (fun _ _ _ h => h) (Or.inl ⟨by rfl, ?hy321⟩) hS ?rest321
              case hy321 => (intro W hW; go_simp; first | with_reducible rfl | (go_bits; first | with_reducible rfl | (go_simp; with_reducible rfl)))
              simp only [List.getElem_toArray, List.getElem_cons_succ, List.getElem_cons_zero, Act.put, List.setIfInBounds_toArray, List.set_cons_succ, List.set_cons_zero]
              refine wpAnyH_take (i := 34) (v := ?v322) rfl (by kernel_rfl) (by kernel_rfl) (by kernel_rfl) (fun _ _ _ h => h) (Or.inl ⟨by rfl, ?hy322⟩) hS ?rest322
              case hy322 => (intro W hW; go_simp; first | with_reducible rfl | (go_bits; first | with_reducible rfl | (go_simp; with_reducible rfl)))
              simp only [List.getElem_toArray, List.getElem_cons_succ, List.getElem_cons_zero, Act.put, List.setIfInBounds_toArray, List.set_cons_succ, List.set_cons_zero]
              refine wpAnyH_take (i := 35) (v := ?v323) rfl (by kernel_rfl) (by kernel_rfl) (by kernel_rfl) (fun _ _ _ h => h) (Or.inl ⟨by rfl, ?hy323⟩) hS ?rest323
              case hy323 => (intro W hW; go_simp; first | with_reducible rfl | (go_bits; first | with_reducible rfl | (go_simp; with_reducible rfl)))
              simp only [List.getElem_toArray, List.getElem_cons_succ, List.getElem_cons_zero, Act.put, List.setIfInBounds_toArray, List.set_cons_succ, List.set_cons_zero]
              refine wpAnyH_take (i := 36) (v := ?v324) rfl (by kernel_rfl) (by kernel_rfl) (by kernel_rfl) (fun _ _ _ h => h) (Or.inl ⟨by rfl, ?hy324⟩) hS ?rest324
              case hy324 => (intro W hW; go_simp; first | with_reducible rfl | (go_bits; first | with_reducible rfl | (go_simp; with_reducible rfl)))
              simp only [List.getElem_toArray, List.getElem_cons_succ, List.getElem_cons_zero, Act.put, List.setIfInBounds_toArray, List.set_cons_succ, List.set_cons_zero]
              refine wpAnyH_take (i := 37) (v := ?v325) rfl (by kernel_rfl) (by kernel_rfl) (by kernel_rfl) (fun _ _ _ h => h) (Or.inl ⟨by rfl, ?hy325⟩) hS ?rest325
              case hy325 => (intro W hW; go_simp; first | with_reducible rfl | (go_bits; first | with_reducible rfl | (go_simp; with_reducible rfl)))
              simp only [List.getElem_toArray, List.getElem_cons_succ, List.getElem_cons_zero, Act.put, List.setIfInBounds_toArray, List.set_cons_succ, List.set_cons_zero]
              refine wpAnyH_take (i := 38) (v := ?v326) rfl (by kernel_rfl) (by kernel_rfl) (by kernel_rfl) (fun _ _ _ h => h) (Or.inl ⟨by rfl, ?hy326⟩) hS ?rest326
              case hy326 => (intro W hW; go_simp; first | with_reducible rfl | (go_bits; first | with_reducible rfl | (go_simp; with_reducible rfl)))
              simp only [List.getElem_toArray, List.getElem_cons_succ, List.getElem_cons_zero, Act.put, List.setIfInBounds_toArray, List.set_cons_succ, List.set_cons_zero]
              refine wpAnyH_take (i := 39) (v := ?v327) rfl (by kernel_rfl) (by kernel_rfl) (by kernel_rfl) (fun _ _ _ h => h) (Or.inl ⟨by rfl, ?hy327⟩) hS ?rest327
              case hy327 => (intro W hW; go_simp; first | with_reducible rfl | (go_bits; first | with_reducible rfl | (go_simp; with_reducible rfl)))
              simp only [List.getElem_toArray, List.getElem_cons_succ, List.getElem_cons_zero, Act.put, List.setIfInBounds_toArray, List.set_cons_succ, List.set_cons_zero]
              refine wpAnyH_ready (rs := [40]) (by kernel_rfl) (by simp) ?_
              refine AllReadyH.cons rfl (fun K hK => ?_) AllReadyH.nil
              rw [if_pos (by rfl)]
              simp only [List.getElem_toArray, List.getElem_cons_succ, List.getElem_cons_zero]
              have hc4 := L4.out.cell; have hf4 := L4.out.frozen
              have hDlt : D < W.heap.size := (Array.getElem?_eq_some_iff.1 HK.out).1
              have HKz : Hid (∀ W', NlS w16 (w.heap.size + 1 + 1) W' → W'.heap[D]? = some (.deferred (some []))) := Lib.hid (fun W' h => (h.rest D (by omega)).trans ((HB16.out.block D hDlt).trans HK.out))
              have HBz : Hid (∀ W', NlS w16 (w.heap.size + 1 + 1) W' → Below w.heap.size w W') := Lib.hid (fun W' h => (P9.out.trans (HB16.out.mono hWl)).trans ⟨h.os, h.tape, h.output, Nat.le_of_eq h.size.symm, fun k hk => h.rest k (by omega)⟩)
              have HC4 : Hid (Boxed (w16.drew.setCell ⟨w.heap.size + 1 + 1, 0, none⟩ (.bool true)) (w.heap.size + 1 + 1) 4 (.bool true)) := Lib.hid (Boxed.set (W := w16.drew) (.bool true) L4.out)
              go_simp
              refine hK.out _ _ ?s328 (fun hS => ?_)
              case s328 => exact (hS.set (.bool true))
              clear hK K
              clear hc4 hf4
              refine wpAnyH_done (by kernel_rfl) ?_ _
              refine norm_intro ?_
              have HS9 := Lib.hid hS
              clear hS
              go_wp2_with fail
              refine ⟨by simp, .inl ⟨_, _, rfl, run_takeDeferred (HKz.out _ HS9.out), ?_⟩⟩
              have hg9 := grownBy_putObj' (w16.drew.setCell ⟨w.heap.size + 1 + 1, 0, none⟩ (.bool true)) D (.deferred none)
              refine ⟨.bool true, results_cell rfl _ _ ⟨w.heap.size + 1 + 1, 0, none⟩ true rfl (HC4.out.kept hg9 (fun e => by injection e with e; omega)).cell, rfl, ?_⟩
              exact (HBz.out _ HS9.out).trans (belowK_b (w := w5) (by have := hBz.size; omega) _ D _ _ (by omega) (HKz.out _ HS9.out) rfl rfl)
        · exact absurd ⟨j8, hj8, rfl⟩ hno
end Go.Proofs.Ytafpndmoognjlaa
