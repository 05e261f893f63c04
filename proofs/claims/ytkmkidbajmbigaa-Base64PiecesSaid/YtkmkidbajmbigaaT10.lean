/- (*Encoder).Write, walked. -/
import Derived.Test.YtkmkidbajmbigaaT9
namespace Go.Proofs.Ytkmkidbajmbigaa
open Go.ChangeShapes Go.WideShapes Go.ChangeAt Go.RowKit

theorem wpList_load_one {P : Program} {ops : Array Oper} {rest : List Oper} {o : Oper} {a : Act} {w : World} {Q : Exit → Act → World → Prop} (hgd : o.guard = none) (t : TypeId) (x : Operand) (ho : o.op = .load t x)
    (ad : Addr) (hx : a.eval x = .pointer (some ad)) (v : Value) (hagg : ∀ w, (isAgg t).run P w = .ok false w) (hc : w.cell? ad = some v) (h : wpList P ops Q rest (a.put o.dst v) w) : wpList P ops Q (o :: rest) a w :=
  wpList_plain hgd fun _ hK => by
    unfold Oper.wp execOp
    simp only [ho, hx, Instr.loadAt, Instr.sureAddr, Sem.run_bind, Sem.run_pure, Result.andThen_ok, loadVar, hagg, Bool.false_eq_true, if_false]
    have hl : (load ad).run P w = .ok v w := by simp [hc]
    rw [hl]
    exact hK _ _ h
theorem gbn {a b c : World} {row : Option Nat} (h1 : a.grownBy b none) (h2 : b.grownBy c row) (hr : ∀ k, row = some k → a.heap.size ≤ k) : a.grownBy c none :=
  ⟨h2.os.trans h1.os, h2.tape.trans h1.tape, h2.output.trans h1.output, Nat.le_trans h1.size h2.size, fun k hk hne => (h2.block k (Nat.lt_of_lt_of_le hk h1.size) (fun e => by
    have := hr k e.symm
    omega)).trans (h1.block k hk hne)⟩
theorem idc_app (l m : List UInt8) : idc (l ++ m) = idc l ++ idc m := by simp [idc]
theorem idc_take (l : List UInt8) (m : Nat) : idc (l.take m) = (idc l).take m := by simp [idc]
theorem idc_drop (l : List UInt8) (m : Nat) : idc (l.drop m) = (idc l).drop m := by simp [idc]
def allS (l b : List UInt8) : List UInt8 := restS l ++ b
def wholeS (l b : List UInt8) : List UInt8 := (allS l b).take ((allS l b).length / 3 * 3)
theorem rest_app (l b : List UInt8) : restS (l ++ b) = (allS l b).drop ((allS l b).length / 3 * 3) := by
  have hl : (restS l).length = l.length % 3 := by
    unfold restS
    rw [List.length_drop]
    omega
  unfold allS
  rw [List.length_append, hl]
  have e : l ++ b = l.take (l.length / 3 * 3) ++ (restS l ++ b) := by
    unfold restS
    rw [← List.append_assoc, List.take_append_drop]
  have hq : (l ++ b).length / 3 * 3 = l.length / 3 * 3 + (l.length % 3 + b.length) / 3 * 3 := by
    rw [List.length_append]
    omega
  unfold restS at e ⊢
  rw [hq]
  conv => lhs; rw [e]
  have ht : (l.take (l.length / 3 * 3)).length = l.length / 3 * 3 := by rw [List.length_take]; omega
  rw [List.drop_append, List.drop_of_length_le (by rw [ht]; omega), ht, Nat.add_sub_cancel_left, List.nil_append]
/-- the Encoder in block g has received these bytes; its row lies from block B on -/
def EncN (w : World) (g B : Nat) (l : List UInt8) (closed : Bool) : Prop :=
  ∃ v, Blk w g 47 #[v, .int .i64 l.length, .bool closed] ∧ w.ownsRow B 5 1 v (restS l).length (idc (restS l))
theorem EncN.enc {w : World} {g B : Nat} {l : List UInt8} {c : Bool} (h : EncN w g B l c) (hB : g ≤ B) : EncO w g l c := by
  obtain ⟨v, h1, h2⟩ := h
  exact ⟨v, h1, own_mono h2 hB⟩
theorem EncN.far {w w' : World} {g B : Nat} {l : List UInt8} {c : Bool} (h : EncN w g B l c) {row : Option Nat} (hg : w.grownBy w' row) (hr : ∀ k, row = some k → k ≠ g ∧ k < B) : EncN w' g B l c := by
  obtain ⟨v, h1, h2⟩ := h
  refine ⟨v, h1.grown hg (fun e => (hr g e.symm).1 rfl), own_keep h2 fun k hk => hg.block k (h2.lt k hk).2 (fun e => ?_)⟩
  have := (hr k e.symm).2
  have := (h2.lt k hk).1
  omega
theorem row_any {w : World} {A A' : Option Addr} {all : List UInt8} {S c q : Nat} (h : Row w A (idc all)) (hl : all.length = S) (hc : S ≤ c) (hA : A' = (if c = q then A else A.map (·.add q)) ∨ A' = A.map (·.add q) ∨ c = q) : Row w A' (idc (all.drop q)) := by
  rcases hA with rfl | rfl | rfl
  · rw [idc_drop]
    exact h.cut (m := q) (c = q) (fun e => by rw [idc_length]; omega)
  · rw [idc_drop]
    have := h.cut (m := q) False (fun h => h.elim)
    simpa using this
  · rw [List.drop_eq_nil_of_le (by omega)]; exact .inl rfl
set_option maxHeartbeats 3200000 in
theorem write_calls (g : Nat) (l : List UInt8) (A : Option Addr) (n c : Nat) (b : List UInt8) (hl : b.length = n) (hn : n ≤ 200) (hL : l.length ≤ 10000) (w : World) (h : EncO w g l false) (hr : Row w A (idc b)) (hA : b = [] ∨ ∀ ad, A = some ad → ad.block ≠ g) :
    Calls Try.prog 16 #[.pointer (some ⟨g, 0, none⟩), .slice A n c] w fun e w' => e = .returned (.tuple #[.string (str (encS (wholeS l b))), .int .i64 0]) ∧ EncN w' g w.heap.size (l ++ b) false ∧ w.grownBy w' (some g) := by
  obtain ⟨v, hb, hown⟩ := h
  have hlt := rest_lt l
  have hne := own_ne hown hb (by decide)
  obtain ⟨A1, c1', rfl, h1, h2, h3, h4⟩ := Row.of_own hown
  obtain ⟨L, hLe⟩ : ∃ L, l.length = L := ⟨_, rfl⟩
  rw [hLe] at hb hL
  have k1 : w.cell? ⟨g, 2, none⟩ = some (.bool false) := hb.cell 2
  have k2 : w.cell? ⟨g, 1, none⟩ = some (.int .i64 L) := hb.cell 1
  have k3 : w.cell? ⟨g, 0, none⟩ = some (.slice A1 (restS l).length c1') := hb.cell 0
  have f1 := hb.frozen 1
  obtain ⟨M, hM⟩ : ∃ M, M = L + n := ⟨_, rfl⟩
  have hMi : (L : Int) + n = M := by omega
  have hb1 : Blk (w.setCell ⟨g, 1, none⟩ (.int .i64 M)) g 47 #[.slice A1 (restS l).length c1', .int .i64 M, .bool false] := hb.set_ 1 (.int .i64 M)
  have hg1 : w.grownBy (w.setCell ⟨g, 1, none⟩ (.int .i64 M)) (some g) := gb_set w g 1 _
  have hown1 : (w.setCell ⟨g, 1, none⟩ (.int .i64 M)).ownsRow g 5 1 (.slice A1 (restS l).length c1') (restS l).length (idc (restS l)) :=
    own_keep hown fun k hk => hg1.block k (hown.lt k hk).2 (fun e => hne (by rw [hk, e]))
  have hrow1 : Row (w.setCell ⟨g, 1, none⟩ (.int .i64 M)) A1 (idc (restS l)) := by
    obtain ⟨A', c', e, _, _, h, _⟩ := Row.of_own hown1
    injection e with e _ _
    subst e
    exact h
  have hr1 : Row (w.setCell ⟨g, 1, none⟩ (.int .i64 M)) A (idc b) := by
    rcases hA with h | h
    · rw [h]; exact .inl rfl
    · exact hr.grown hg1 fun ad e => by intro e2; injection e2 with e2; exact h ad e e2
  have k4 : (w.setCell ⟨g, 1, none⟩ (.int .i64 M)).cell? ⟨g, 0, none⟩ = some (.slice A1 (restS l).length c1') := hb1.cell 0
  have k5 : ((w.setCell ⟨g, 1, none⟩ (.int .i64 M)).alloc (.cells #[] 5)).cell? ⟨g, 0, none⟩ = some (.slice A1 (restS l).length c1') := (hb1.alloc _).cell 0
  have hsz1 : (w.setCell ⟨g, 1, none⟩ (.int .i64 M)).heap.size = w.heap.size := by simp
  have hgl : g < w.heap.size := hb.lt
  have HR := Lib.hid (rest_app l b)
  have HW : Hid (wholeS l b = (allS l b).take ((allS l b).length / 3 * 3)) := Lib.hid rfl
  have HA : Hid (allS l b = restS l ++ b) := Lib.hid rfl
  have HM : Hid ((l ++ b).length = M) := Lib.hid (by rw [List.length_append, hLe, hl, hM])
  have hown0 : ((w.setCell ⟨g, 1, none⟩ (.int .i64 M)).alloc (.cells #[] 5)).ownsRow w.heap.size 5 1 (.slice (some ⟨w.heap.size, 0, none⟩) 0 0) 0 [] := by
    have := own_new (w.setCell ⟨g, 1, none⟩ (.int .i64 M)) w.heap.size (by rw [hsz1]; exact Nat.le_refl _) [] 5 0 1 rfl (by unfold maxLen; omega)
    rwa [hsz1] at this
  have hG11 : (w.setCell ⟨g, 1, none⟩ (.int .i64 M)).grownBy ((w.setCell ⟨g, 1, none⟩ (.int .i64 M)).alloc (.cells #[] 5)) none := World.grownBy_alloc _ _ _
  have Hl := Lib.hid hl
  generalize hal : allS l b = all at HR HW HA
  obtain ⟨rn, hrn⟩ : ∃ rn, (restS l).length = rn := ⟨_, rfl⟩
  obtain ⟨S, hS⟩ : ∃ S, S = rn + n := ⟨_, rfl⟩
  have Hal2 : Hid (all.length = S) := Lib.hid (by rw [HA.out, List.length_append, hrn, hl, hS])
  rw [hrn] at k3 k4 k5 hlt hb1
  obtain ⟨q, hq⟩ : ∃ q, q = S / 3 * 3 := ⟨_, rfl⟩
  have hqi : (S : Int) / 3 * 3 = q := by omega
  have hS2 : S ≤ 300 := by omega
  have hqS : q ≤ S := by omega
  have Hrn := Lib.hid hrn
  have HS := Lib.hid hS
  have Hq := Lib.hid hq
  have Hb1 := Lib.hid hb1
  have Hg1 := Lib.hid hg1
  clear hA hown hown1 hb hb1 h1 h2 h3 h4 hal hl hM hrn hS hq hr hLe hg1 hne
  obtain ⟨i0, hi0, hz0, hz1, hz2⟩ := byteInfo
  have hM2 : M ≤ 131072 := by omega
  have t1 : True := trivial
  have t2 : True := trivial
  have t3 : True := trivial
  have t4 : True := trivial
  have t0 : True := trivial
  have K5 := Lib.hid k5
  clear k5 k4
  go_enter Try.func16, Try.ntmps16
  go_wp2_with (first
    | (have _t := t0; refine wpList_load_one rfl 22 _ rfl _ rfl _ Try.isAgg22 K5.out ?_; simp only [Act.put, List.setIfInBounds_toArray, List.set_cons_succ, List.set_cons_zero]; clear t0)
    | (have _t := t1; refine wpList_append_row _ rfl _ _ 22 rfl w.heap.size 5 i0 (.int .u8 0) 1 1 Try.underlying22 hi0 hz0 hz1 hz2 rfl (by decide) (.slice (some ⟨w.heap.size, 0, none⟩) 0 0) 0 [] rfl hown0 A1 rn c1' (idc (restS l)) rfl (by rw [idc_length, Hrn.out, Nat.mul_one]) (hrow1.alloc _) (idc_one _) (by unfold maxLen; omega) (by omega) (by simp) ?_; intro v4 w4 hown4 hg4 hv4; have hG4 : (w.setCell ⟨g, 1, none⟩ (.int .i64 M)).grownBy w4 none := gbn hG11 hg4 (fun k hk => by rw [hsz1]; exact (hown0.lt k hk).1); have hs4 : w.heap.size ≤ w4.heap.size := (by have := hG4.size; rw [hsz1] at this; exact this); clear hg4 hv4; simp only [Act.put, List.setIfInBounds_toArray, List.set_cons_succ, List.set_cons_zero]; clear t1)
    | (have _t := t2; refine wpList_append_row _ rfl _ _ 22 rfl w.heap.size 5 i0 (.int .u8 0) 1 1 Try.underlying22 hi0 hz0 hz1 hz2 rfl (by decide) _ _ _ rfl hown4 A n c (idc b) rfl (by rw [idc_length, Hl.out, Nat.mul_one]) (hr1.grown hG4 nofun) (idc_one _) (by unfold maxLen; omega) (by omega) hs4 ?_; intro v5 w5 hown5 hg5 hv5; have hG5 : (w.setCell ⟨g, 1, none⟩ (.int .i64 M)).grownBy w5 none := gbn hG4 hg5 (fun k hk => by rw [hsz1]; exact (hown4.lt k hk).1); have hs5 : w.heap.size ≤ w5.heap.size := (by have := hG5.size; rw [hsz1] at this; exact this); rw [List.nil_append, ← idc_app, ← HA.out, Nat.zero_add, ← HS.out] at hown5; obtain ⟨A5, c5, rfl, h1, h2, h3, h5⟩ := Row.of_own hown5; have Hown5 := Lib.hid hown5; have own0 : (w5.alloc (.cells #[] 5)).ownsRow w.heap.size 5 1 (.slice (some ⟨w5.heap.size, 0, none⟩) 0 0) 0 [] := own_new w5 w.heap.size hs5 [] 5 0 1 rfl (by unfold maxLen; omega); clear hg5 hv5 hown5; simp only [Act.put, List.setIfInBounds_toArray, List.set_cons_succ, List.set_cons_zero]; clear t2)
    | (have _t := t3; at_builtin; go_must (refine wpList_append_row _ rfl _ _ 22 rfl w.heap.size 5 i0 (.int .u8 0) 1 1 Try.underlying22 hi0 hz0 hz1 hz2 rfl (by decide) _ _ _ rfl own0 _ (S - q) _ (idc (all.drop q)) rfl (by rw [idc_length, List.length_drop, Hal2.out, Nat.mul_one]) ((row_any h3 Hal2.out h1 (by first | exact .inl rfl | exact .inr (.inl rfl) | exact .inr (.inr (by assumption)))).alloc _) (idc_one _) (by unfold maxLen; omega) (by omega) (by simp; omega) ?_; intro v7 w7 hown7 hg7 _; rw [Nat.zero_add, List.nil_append] at hown7; obtain ⟨A7, c7, rfl, -⟩ := Row.of_own hown7; have hG7 : (w.setCell ⟨g, 1, none⟩ (.int .i64 M)).grownBy w7 none := gbn (gbn hG5 (World.grownBy_alloc w5 _ none) nofun) hg7 (fun k hk => by rw [hsz1]; exact (own0.lt k hk).1); have hG57 : w5.grownBy w7 none := gbn (World.grownBy_alloc w5 _ none) hg7 (fun k hk => Nat.le_of_eq (Option.some.inj (show some w5.heap.size = some k from hk))); have hb7 := Hb1.out.grown hG7 nofun; have k7 : w7.cell? ⟨g, 0, none⟩ = some (.slice A1 rn c1') := hb7.cell 0; have f7 := hb7.frozen 0; have hb8 := hb7.set_ 0 (.slice A7 (S - q) c7); have Hb8 := Lib.hid hb8; have Hown7 := Lib.hid hown7; clear hb7 hb8 hown7 hg7; simp only [Act.put, List.setIfInBounds_toArray, List.set_cons_succ, List.set_cons_zero]; clear t3)))
  all_goals
    have hrow8 : Row (w7.setCell ⟨g, 0, none⟩ (.slice A7 (S - q) c7)) A5 (idc (all.take q)) := by
      have h := (h3.take q).grown hG57 (fun ad _ => nofun)
      rw [← idc_take] at h
      exact h.grown (gb_set w7 g 0 _) (fun ad e => by intro e2; injection e2 with e2; have := h5 ad e; omega)
    refine (encode_calls A5 q _ (all.take q) (by rw [List.length_take, Hal2.out]; omega) (by omega) _ hrow8).mono ?_
    rintro e w9 ⟨rfl, hb9⟩
    go_wp2_with fail
    go_ret2
    refine ⟨?_, ?_, ?_⟩
    · rw [HW.out, Hal2.out, ← Hq.out]; rfl
    · refine ⟨.slice A7 (S - q) c7, ?_, ?_⟩
      · rw [HM.out]
        exact Hb8.out.below hb9 (by simp; have := hG7.size; rw [hsz1] at this; omega)
      · have e1 : restS (l ++ b) = all.drop q := by rw [HR.out, Hal2.out, ← Hq.out]
        have e2 : (all.drop q).length = S - q := by rw [List.length_drop, Hal2.out]
        rw [e1, e2]
        refine own_keep (own_keep Hown7.out fun k hk => Below.heap_setCell _ _ _ _ (fun e => ?_)) fun k hk => hb9.block k (by simp; exact (Hown7.out.lt k hk).2)
        have := (Hown7.out.lt k hk).1
        simp at e; omega
    · exact gb_below (gb (gb Hg1.out hG7 nofun) (gb_set w7 g 0 _) (fun k hk => by injection hk with hk; exact .inl hk.symm)) hb9
end Go.Proofs.Ytkmkidbajmbigaa
