/- Ancestors, its iterator, Parent and accepted: the functions below Nearest, walked. -/
import Derived.Test.YtafpndmoognjlaaC1
import Derived.Test.YtafpndmoognjlaaRound
namespace Go.Proofs.Ytafpndmoognjlaa
open Go Go.ChangeShapes Go.WideShapes Go.ChangeAt Go.RowKit Go.Shelf
attribute [local go_sem] Oper.semAt_some
def idAt (ls : List (List UInt8)) (i : Nat) : List UInt8 := ls[i]?.getD zid
theorem idAt_len {ls : List (List UInt8)} (h : ∀ l ∈ ls, l.length = 32) (i : Nat) : (idAt ls i).length = 32 := by
  unfold idAt
  cases hi : ls[i]? with
  | none => rfl
  | some l => exact h l (List.mem_of_getElem? hi)
def accB (l : List UInt8) : Bool := decide ((l[31]?.getD 0).toNat % 2 = 1)
set_option maxHeartbeats 400000 in
theorem accepted_calls (l : List UInt8) (hl : l.length = 32) (w : World) :
    Calls Try.prog 17 #[idv l] w fun e w' => e = .returned (.bool (accB l)) ∧ Below w.heap.size w w' := by
  obtain ⟨b, hb0⟩ : ∃ b : UInt8, l[31]?.getD 0 = b := ⟨_, rfl⟩
  have Hb0 := Lib.hid hb0
  have Hcl : Hid ((idc l).toArray[31]? = some (.int .u8 b.toNat)) := Lib.hid (by
    rw [idc_at l 31 (by omega), ← hb0, List.getElem?_eq_getElem (by omega)]; rfl)
  clear hb0
  have hb2 : (b.toNat : Int) ≤ 255 := by have := b.toNat_lt; omega
  have hres : ((b.toNat : Int) % 2 == 1) = accB l := by
    unfold accB
    rw [Hb0.out, Bool.eq_iff_iff]; simp; omega
  have Hres := Lib.hid hres
  clear hres
  go_enter Try.func17, Try.ntmps17
  have t1 : True := trivial
  go_wp2_with (have _t := t1; refine wpList_alloc rfl rfl 33 (idc l).toArray (by kernel_rfl) ?_; intro w1 hb1 hg1 hs1; have hB1 : Below w.heap.size w w1 := ⟨hg1.os, hg1.tape, hg1.output, hg1.size, fun k hk => hg1.block k hk nofun⟩; have hc3 : w1.cell? ⟨w.heap.size, 31, none⟩ = some (.int .u8 b.toNat) := (by rw [hb1.cell 31]; exact Hcl.out); simp only [Act.put, List.setIfInBounds_toArray, List.set_cons_succ, List.set_cons_zero]; clear t1)
  go_ret
  exact ⟨ret_bool Hres.out, hB1⟩
set_option maxHeartbeats 400000 in
theorem ancestors_calls (A : Option Addr) (n c : Nat) (w : World) :
    Calls Try.prog 18 #[.slice A n c] w fun e w' => e = .returned (.func (.func 31) #[] #[.pointer (some ⟨w.heap.size, 0, none⟩)]) ∧ w' = w.alloc (.cells #[.slice A n c] 24) := by
  go_enter Try.func18, Try.ntmps18
  go_wp2
  go_ret
  exact ⟨rfl, rfl⟩
theorem wpListIn_load_id {F : Fence} {n : Nat} {P : Program} {ops : Array Oper} {rest : List Oper} {o : Oper} {a : Act} {w : World} {Q : Exit → Act → World → Prop} (hro : F.round = none) (hgd : o.guard = none) (t : TypeId) (x : Operand) (ho : o.op = .load t x)
    (ad : Addr) (hx : a.eval x = .pointer (some ad)) (l : List UInt8) (ht : isId P t = true) (hc : IdAt w ad l) (h : wpListIn F n P ops Q rest (a.put o.dst (idv l)) w) : wpListIn F n P ops Q (o :: rest) a w :=
  wpListIn_plain hgd fun K hK => by
    refine ⟨fun f hf => ?_, ?_⟩
    · unfold Oper.about at hf; rw [ho] at hf; cases hf
    · rw [hro, Oper.semAt_none]
      unfold execOp
      simp only [ho, hx, Sem.run_bind, Sem.run_pure, Result.andThen_ok, run_load_id w hc ht]
      exact hK _ _ h
/-- what has come behind k rounds: the indices from the last one on -/
def down (n k : Nat) : List Nat := (List.range k).map fun j => n - 1 - j
theorem down_succ (n k : Nat) : down n (k + 1) = down n k ++ [n - 1 - k] := by simp [down, List.range_succ]
theorem down_length (n k : Nat) : (down n k).length = k := by simp [down]
def encA (ls : List (List UInt8)) (i : Nat) : Array Value := #[.int .i64 (i : Int), idv (idAt ls i)]
/-- what a round that goes on keeps: the blocks below n₀, and the slice's own box -/
def KpA (n₀ Bs : Nat) (W W' : World) : Prop := Below n₀ W W' ∧ ∀ v, W.cell? ⟨Bs, 0, none⟩ = some v → W'.cell? ⟨Bs, 0, none⟩ = some v
theorem KpA.trans {n₀ Bs : Nat} {A B C : World} (h : KpA n₀ Bs A B) (k : KpA n₀ Bs B C) : KpA n₀ Bs A C := ⟨h.1.trans k.1, fun v hv => k.2 v (h.2 v hv)⟩
set_option maxRecDepth 100000 in
set_option maxHeartbeats 2000000 in
theorem anc1_in (F : Fence) (m : Nat) (hF : F.fn 31) (hro : F.round = none) (hm : 1 ≤ m) (l Bs n₀ n c : Nat) (A : Option Addr) (ls : List (List UInt8)) (hln : ls.length = n) (hn : n ≤ 100000) (J Jx : List Nat → World → Prop)
    (hY : ∀ pre x W, J pre W → pre.length < n → YieldAt F (m - 1) Try.prog l (encA ls x) W fun e W' =>
      (e = .returned (.bool true) ∧ J (pre ++ [x]) W' ∧ KpA n₀ Bs W W') ∨ (e = .returned (.bool false) ∧ Jx (pre ++ [x]) W'))
    (W : World) (hBs : W.cell? ⟨Bs, 0, none⟩ = some (.slice A n c)) (hI : Ids W A ls) (hlt : ls ≠ [] → ∀ ad, A = some ad → ad.block < n₀) (h0 : J [] W) :
    CallsIn F m Try.prog 31 #[.func (.yield l) #[] #[], .pointer (some ⟨Bs, 0, none⟩)] W fun e W' => (∃ v, e = .returned v) ∧
      ((∃ ys, ys = down n n ∧ J ys W') ∨ (∃ pre, (∃ k, k ≤ n ∧ pre = down n k) ∧ Jx pre W')) := by
  have HY := Lib.hid hY; have Hln := Lib.hid hln; have HI := Lib.hid hI; have HBs := Lib.hid hBs
  clear hY hln hI
  refine callsIn_of_wp Try.func31 rfl hF ?_ hro
  simp only [Try.ntmps31, List.size_toArray, List.length_cons, List.length_nil, Nat.reduceAdd, Nat.reduceSub, Array.replicate_succ, Array.replicate_zero, List.push_toArray, List.append_toArray, List.nil_append, List.cons_append]
  gi_wp2
  gi_loopw [3] (fun i wr => ∃ k : Nat, k ≤ n ∧ i = .int .i64 ((n : Int) - 1 - k) ∧ J (down n k) wr ∧ Below n₀ W wr ∧ wr.cell? ⟨Bs, 0, none⟩ = some (.slice A n c)) (fun i _ => (intOf i + 1).toNat)
  case atStart => exact ⟨0, Nat.zero_le _, by simp, h0, Below.refl _ _, HBs.out⟩
  case round =>
    obtain ⟨k, hk, rfl, hJs, hB, hBs'⟩ := hrel
    have HB := Lib.hid hB
    have HBs' := Lib.hid hBs'
    clear hBs hB
    by_cases hlt' : k < n
    · have i1 : (0 : Int) ≤ (n : Int) - 1 - k := by omega
      obtain ⟨j, hj⟩ : ∃ j, n - 1 - k = j := ⟨_, rfl⟩
      have hjI : (n : Int) - 1 - k = (j : Int) := by omega
      have hjn : (j : Int) < n := by omega
      have hjn' : j < n := by omega
      obtain ⟨ad, x, hA, hx, hx32, hat⟩ := HI.out.at_ (k := j) (by rw [Hln.out]; exact hjn')
      have hlt2 := hlt (by rintro rfl; have := Hln.out; simp at this; omega) ad hA
      subst hA
      have hxid : idAt ls j = x := by unfold idAt; rw [hx]; rfl
      have hat2 : IdAt wr (ad.add (j * 32)) x := hat.keep fun p hp => HB.out.cell (by rw [hp, Addr.add_block]; exact hlt2)
      obtain ⟨fn, tmps, assign, body, hy, hR⟩ := HY.out (down n k) j wr hJs (by rw [down_length]; exact hlt')
      unfold encA at hy
      rw [hxid] at hy
      have Hj := Lib.hid hj; have Hxid := Lib.hid hxid; have Hat := Lib.hid hat2; have Hx := Lib.hid hx
      clear hj hxid hat2 hat hx hx32
      rw [hjI]
      gi_wp2_with (refine wpListIn_load_id hro rfl 33 _ rfl _ rfl x (by kernel_rfl) Hat.out ?_)
      refine hR.mono ?_
      rintro e W3 (⟨rfl, hJ3, hk3⟩ | ⟨rfl, hJx3⟩)
      · have HJ3 := Lib.hid hJ3; have HK3 := Lib.hid hk3
        clear hJ3 hk3 hJs hR
        have hjk : (j : Int) - 1 = (n : Int) - 1 - ((k + 1 : Nat) : Int) := by have := Hj.out; omega
        have Hjk := Lib.hid hjk
        clear hjk hjI
        gi_wp2
        go_roundw
        case rel =>
          exact ⟨k + 1, by omega, congrArg (Value.int .i64) Hjk.out, by rw [down_succ, Hj.out]; exact HJ3.out, HB.out.trans HK3.out.1, HK3.out.2 _ HBs'.out⟩
        case measure => simp [intOf]
      · have HJ3 := Lib.hid hJx3
        clear hJx3 hR
        gi_wp2
        refine bodyPost_ret (results_none rfl _ _ _) rfl ?_
        exact ⟨⟨_, rfl⟩, .inr ⟨_, ⟨k + 1, by omega, by rw [down_succ, Hj.out]⟩, HJ3.out⟩⟩
    · obtain rfl : k = n := by omega
      have i1 : ¬ (0 : Int) ≤ (k : Int) - 1 - k := by omega
      gi_wp2
      go_end0
      exact ⟨⟨_, rfl⟩, .inl hJs⟩
theorem anc_stops (F : Fence) (m : Nat) (hF : F.fn 31) (hro : F.round = none) (hm : 1 ≤ m) (Bs n₀ n c : Nat) (A : Option Addr) (ls : List (List UInt8)) (hln : ls.length = n) (hn : n ≤ 100000) (w : World)
    (hBn : Bs < w.heap.size) (hn₀ : n₀ ≤ w.heap.size) (hc : w.cell? ⟨Bs, 0, none⟩ = some (.slice A n c)) (hI : Ids w A ls) (hlt : ls ≠ [] → ∀ ad, A = some ad → ad.block < n₀) :
    SeqStopsK F m Try.prog 31 #[.pointer (some ⟨Bs, 0, none⟩)] (encA ls) (KpA n₀ Bs) (fun ys => ys = down n n) (fun pre => ∃ k, k ≤ n ∧ pre = down n k) n w := fun l J Jx W hW _ _ hY h0 => by
  have hW' : Below n₀ w W := hW.mono hn₀
  have hI' : Ids W A ls := by
    by_cases h0 : ls = []
    · subst h0; exact Ids.nil _ _
    · exact ⟨hI.row.keep fun ad e p hp _ => hW'.cell (by rw [hp]; exact hlt h0 ad e), hI.len⟩
  refine (anc1_in F m hF hro hm l Bs n₀ n c A ls hln hn J Jx hY W ((hW.cell (p := ⟨Bs, 0, none⟩) hBn).trans hc) hI' hlt h0).mono ?_
  rintro e W' ⟨he, ⟨ys, hy, hj⟩ | ⟨pre, hp, hj⟩⟩
  · exact ⟨he, .inl ⟨ys, hy, hj⟩⟩
  · exact ⟨he, .inr ⟨pre, hp, hj⟩⟩
theorem results_id_tmp {fn : Func} {p t : Tmp} {ty : TypeId} (h : fn.results = #[.cell p ty, .tmp t]) (tmps : Array Value) (w : World) {P : Program} (ht : isId P ty = true) (a : Addr) (x : List UInt8) (hp : tmps.getD p undef = .pointer (some a)) (hx : IdAt w a x) :
    (results fn tmps).run P w = .ok (.tuple #[idv x, tmps.getD t undef]) w := by
  have hl := run_load_id (P := P) w hx ht
  simp only [Instr.loadAt, Instr.sureAddr, Sem.run_bind, Sem.run_pure, Result.andThen_ok] at hl
  have hp' : tmps[p]?.getD undef = .pointer (some a) := by simpa using hp
  simp [results, h, hp', asAddr, hl]
set_option maxRecDepth 100000 in
set_option maxHeartbeats 400000 in
theorem parent_calls (A : Option Addr) (ls : List (List UInt8)) (c n : Nat) (hln : ls.length = n) (hn0 : 0 < n) (hn : n ≤ 65536) (w : World) (hl : Ids w A ls) :
    Calls Try.prog 19 #[.slice A n c] w fun e w' => e = .returned (.tuple #[idv (idAt ls (n - 1)), .bool true]) ∧ Below w.heap.size w w' := by
  have t1 : True := trivial
  have t2 : True := trivial
  have t3 : True := trivial
  obtain ⟨ad, x, rfl, hx, hy32, hA⟩ := hl.at_ (k := n - 1) (by omega)
  have hid : idAt ls (n - 1) = x := by unfold idAt; rw [hx]; rfl
  rw [hid]
  have hn0' : ((n : Int) == 0) = false := by rw [beq_eq_false_iff_ne]; omega
  clear hx hln hid
  go_enter Try.func19, Try.ntmps19
  go_wp2_with (first
    | (have _t := t1; refine wpList_alloc rfl rfl 33 (idc zid).toArray (by kernel_rfl) ?_; intro w1 hb1 hg1 hs1; have hA1 := hA.below (grownBy_below hg1); simp only [Act.put, List.setIfInBounds_toArray, List.set_cons_succ, List.set_cons_zero]; clear t1)
    | (have _t := t2; refine wpList_load_id rfl 33 _ rfl _ rfl x (by kernel_rfl) hA1 ?_; simp only [Act.put, List.setIfInBounds_toArray, List.set_cons_succ, List.set_cons_zero]; clear t2)
    | (have _t := t3; refine wpList_store_box rfl 33 _ _ rfl w.heap.size (idc x) rfl rfl (t := 33) hb1 (by simp [idc_length, hy32, zid_len]) (by rw [idc_length, hy32]; kernel_rfl) (idc_one _) ?_; intro w2 hb2 hg2 hs2; have Hs2 := Lib.hid hs2; clear hs2; simp only [Act.put, List.setIfInBounds_toArray, List.set_cons_succ, List.set_cons_zero]; clear t3))
  refine bodyPost_ret (v := .tuple #[idv x, .bool true]) (results_id_tmp (fn := Try.f19) (p := 2) (t := 3) rfl _ w2 (by kernel_rfl) ⟨w.heap.size, 0, none⟩ x rfl (hb2.id_at hy32)) rfl ⟨rfl, ?_⟩
  exact grownBy_below (grownBy_new hg1 hg2 (Nat.le_refl _))
set_option maxRecDepth 100000 in
set_option maxHeartbeats 400000 in
theorem parent_none (A : Option Addr) (c : Nat) (w : World) :
    Calls Try.prog 19 #[.slice A 0 c] w fun e w' => e = .returned (.tuple #[idv zid, .bool false]) ∧ Below w.heap.size w w' := by
  have t1 : True := trivial
  have t2 : True := trivial
  have t3 : True := trivial
  go_enter Try.func19, Try.ntmps19
  go_wp2_with (first
    | (have _t := t1; refine wpList_alloc rfl rfl 33 (idc zid).toArray (by kernel_rfl) ?_; intro w1 hb1 hg1 hs1; simp only [Act.put, List.setIfInBounds_toArray, List.set_cons_succ, List.set_cons_zero]; clear t1)
    | (have _t := t2; refine wpList_value rfl rfl (idv zid) (by kernel_rfl) ?_; simp only [Act.put, List.setIfInBounds_toArray, List.set_cons_succ, List.set_cons_zero]; clear t2)
    | (have _t := t3; refine wpList_store_box rfl 33 _ _ rfl w.heap.size (idc zid) rfl rfl (t := 33) hb1 (by simp [idc_length, zid_len]) (by rw [idc_length, zid_len]; kernel_rfl) (idc_one _) ?_; intro w2 hb2 hg2 hs2; have Hs2 := Lib.hid hs2; clear hs2; simp only [Act.put, List.setIfInBounds_toArray, List.set_cons_succ, List.set_cons_zero]; clear t3))
  refine bodyPost_ret (v := .tuple #[idv zid, .bool false]) (results_id_tmp (fn := Try.f19) (p := 2) (t := 3) rfl _ w2 (by kernel_rfl) ⟨w.heap.size, 0, none⟩ zid rfl (hb2.id_at zid_len)) rfl ⟨rfl, ?_⟩
  exact grownBy_below (grownBy_new hg1 hg2 (Nat.le_refl _))
end Go.Proofs.Ytafpndmoognjlaa
