/- encode, walked. -/
import Derived.Test.YtkmkidbajmbigaaDoorT2
import Derived.Test.YtkmkidbajmbigaaDoorShelf
namespace Go.Proofs.YtkmkidbajmbigaaDoor
open Go.ChangeShapes Go.WideShapes Go.ChangeAt Go.RowKit

structure St where
  out : List UInt8
  bits : Nat
  cnt : Nat
def emitS (s : St) : St := ⟨s.out ++ [chr (s.bits / 2 ^ (s.cnt - 6) % 64)], s.bits % 2 ^ (s.cnt - 6), s.cnt - 6⟩
def pushS (s : St) (c : UInt8) : St := ⟨s.out, s.bits * 256 + c.toNat, s.cnt + 8⟩
def stepS (s : St) (c : UInt8) : St := if s.cnt = 4 then emitS (emitS (pushS s c)) else emitS (pushS s c)
def runS (l : List UInt8) : St := l.foldl stepS ⟨[], 0, 0⟩
def lastS (s : St) : List UInt8 := if s.cnt = 0 then s.out else (emitS ⟨s.out, s.bits * 2 ^ (6 - s.cnt), 6⟩).out
def padS (o : List UInt8) : List UInt8 := o ++ List.replicate ((4 - o.length % 4) % 4) 61
def encS (l : List UInt8) : List UInt8 := padS (lastS (runS l))
def okS (s : St) : Prop := (s.cnt = 0 ∨ s.cnt = 2 ∨ s.cnt = 4) ∧ s.bits < 2 ^ s.cnt
theorem ok_step {s : St} (h : okS s) (c : UInt8) : okS (stepS s c) := by
  obtain ⟨h1, h2⟩ := h
  obtain ⟨o, b, n⟩ := s
  simp only at h1 h2
  have hc := c.toNat_lt
  rcases h1 with rfl | rfl | rfl
  · refine ⟨.inr (.inl ?_), ?_⟩ <;> simp [stepS, emitS, pushS]; omega
  · refine ⟨.inr (.inr ?_), ?_⟩ <;> simp [stepS, emitS, pushS]; omega
  · refine ⟨.inl ?_, ?_⟩ <;> simp [stepS, emitS, pushS]; omega
theorem runS_succ (l : List UInt8) (k : Nat) (x : UInt8) (h : l[k]? = some x) : runS (l.take (k + 1)) = stepS (runS (l.take k)) x := by
  rw [take_succ_at h, runS, List.foldl_append]; rfl
theorem run_ok (l : List UInt8) : ∀ s, okS s → okS (l.foldl stepS s) := by
  induction l with
  | nil => exact fun s h => h
  | cons a t ih => exact fun s h => ih _ (ok_step h a)
theorem runS_ok (l : List UInt8) : okS (runS l) := run_ok l _ ⟨.inl rfl, by decide⟩
theorem step_len (s : St) (c : UInt8) : (stepS s c).out.length ≤ s.out.length + 2 := by
  unfold stepS
  split <;> simp [emitS, pushS]
theorem run_len (l : List UInt8) : ∀ s, okS s → (l.foldl stepS s).out.length ≤ s.out.length + 2 * l.length := by
  induction l with
  | nil => intro s _; simp
  | cons a t ih =>
    intro s h
    have := ih _ (ok_step h a)
    have := step_len s a
    simp only [List.foldl_cons, List.length_cons]
    omega
theorem runS_len (l : List UInt8) : (runS l).out.length ≤ 2 * l.length := by
  have := run_len l ⟨[], 0, 0⟩ ⟨.inl rfl, by decide⟩
  rw [List.length_nil, Nat.zero_add] at this
  exact this

/-- the variables of encode hold a state -/
structure Enc (B bc b ba bb : Nat) (s : St) (w : World) : Prop where
  bld : BldF B b (idc s.out) w
  cnt : Blk w bc 3 #[.int .i64 s.cnt]
  bits : Blk w bb 3 #[.int .i64 s.bits]
  tab : Blk w ba 54 T64
theorem blk_new_bld (w : World) (B b : Nat) (hB : B ≤ b) (h : Blk w b 47 #[.pointer none, .slice none 0 0]) : BldF B b [] w :=
  .inl ⟨hB, _, h, ⟨rfl, .inl ⟨rfl, rfl⟩⟩, nofun⟩

theorem emit_enc (B bc b ba bb : Nat) (s : St) (hB : B ≤ bc ∧ B ≤ ba ∧ B ≤ bb) (hne : bc ≠ b ∧ bc ≠ ba ∧ bc ≠ bb ∧ b ≠ ba ∧ b ≠ bb ∧ ba ≠ bb) (h6 : s.cnt = 6 ∨ s.cnt = 8 ∨ s.cnt = 10 ∨ s.cnt = 12) (hbits : s.bits < 2 ^ 13) (ho : s.out.length ≤ 1000000) (w : World)
    (hBw : B ≤ w.heap.size) (h : Enc B bc b ba bb s w) :
    Calls Tryd.prog 20 #[.pointer (some ⟨bc, 0, none⟩), .pointer (some ⟨b, 0, none⟩), .pointer (some ⟨ba, 0, none⟩), .pointer (some ⟨bb, 0, none⟩)] w fun e w' =>
      e = .returned (.tuple #[]) ∧ Enc B bc b ba bb (emitS s) w' ∧ Below B w w' := by
  refine (emit_calls B bc b ba bb s.bits s.cnt s.out hB hne h6 hbits ho w hBw h.bld h.cnt h.bits h.tab).mono ?_
  rintro e w' ⟨rfl, h1, h2, h3, h4, h5⟩
  exact ⟨rfl, ⟨h1, h2, h3, h4⟩, h5⟩
theorem emit_small {s : St} (h : s.bits < 2 ^ 13) : (emitS s).bits < 2 ^ 13 := Nat.lt_of_le_of_lt (Nat.mod_le _ _) h
theorem enc_set {B bc b ba bb : Nat} {s : St} {w : World} (h : Enc B bc b ba bb s w) (hne : bc ≠ b ∧ bc ≠ ba ∧ bc ≠ bb ∧ b ≠ ba ∧ b ≠ bb ∧ ba ≠ bb) (m k : Nat) :
    Enc B bc b ba bb ⟨s.out, m, k⟩ ((w.setCell ⟨bb, 0, none⟩ (.int .i64 m)).setCell ⟨bc, 0, none⟩ (.int .i64 k)) := by
  have hbc := h.cnt.far (p := ⟨bb, 0, none⟩) hne.2.2.1 (.int .i64 m)
  exact ⟨bld_far (bld_far h.bld h.bits (by decide) (Ne.symm hne.2.2.2.2.1) _ _) hbc (by decide) hne.1 _ _, blk_set hbc _,
    (blk_set h.bits _).far (Ne.symm hne.2.2.1) _, (h.tab.far hne.2.2.2.2.2 _).far (Ne.symm hne.2.1) _⟩
theorem Enc.drew {B bc b ba bb : Nat} {s : St} {w : World} (h : Enc B bc b ba bb s w) : Enc B bc b ba bb s w.drew := ⟨h.bld, h.cnt, h.bits, h.tab⟩

theorem len_calls (B b : Nat) (bs : List Value) (w : World) (h : BldF B b bs w) :
    Calls Tryd.prog 22 #[.pointer (some ⟨b, 0, none⟩)] w fun e w' => e = .returned (.int .i64 bs.length) ∧ w' = w := Any.Builder_Len_f Tryd.lays170 B b bs w h
theorem string_calls (B b : Nat) (l : List UInt8) (w : World) (h : BldF B b (idc l) w) (hBw : B ≤ w.heap.size) :
    Calls Tryd.prog 18 #[.pointer (some ⟨b, 0, none⟩)] w fun e w' => e = .returned (.string ⟨l.toArray⟩) ∧ (BldF B b (idc l) w' ∧ Below B w w') := Any.Builder_String_any_f Tryd.lays169 Tryd.Builder_Extra_169 B b l w h hBw
theorem lastS_len (s : St) : (lastS s).length ≤ s.out.length + 1 := by
  unfold lastS
  split <;> simp [emitS]

set_option maxHeartbeats 1600000 in
theorem encode_calls (A : Option Addr) (n c : Nat) (l : List UInt8) (hl : l.length = n) (hn : n ≤ 100000) (w : World) (hr : Row w A (idc l)) :
    Calls Tryd.prog 12 #[.slice A n c] w fun e w' => e = .returned (.string ⟨(encS l).toArray⟩) ∧ Below w.heap.size w w' := by
  have Hl := Lib.hid hl
  clear hl
  have t1 : True := trivial
  have t2 : True := trivial
  have t3 : True := trivial
  have t4 : True := trivial
  have t5 : True := trivial
  have t6 : True := trivial
  go_enter Tryd.func12, Tryd.ntmps12
  go_wp2_with (first
    | (have _t := t1; go_at_call 19; go_must (refine (alphabet_calls _).mono ?_; rintro e w1 ⟨rfl, hb1⟩; clear t1))
    | (have _t := t2; refine wpList_alloc rfl rfl 54 (part_ 0).toArray (by kernel_rfl) ?_; intro w2 hb2 hg2 hs2; have Hs2 := Lib.hid hs2; clear hs2; simp only [Act.put, List.setIfInBounds_toArray, List.set_cons_succ, List.set_cons_zero]; clear t2)
    | (have _t := t3; refine wpList_store_box rfl 54 _ _ rfl w1.heap.size (part_ 64) rfl rfl hb2 (by rw [List.size_toArray, part_length, part_length]) (by rw [part_length]; kernel_rfl) one64 ?_; intro w3 h3 hg3 hs3; have Hs3 := Lib.hid hs3; clear hs3; simp only [Act.put, List.setIfInBounds_toArray, List.set_cons_succ, List.set_cons_zero]; clear t3)
    | (have _t := t4; refine wpList_alloc rfl rfl 47 #[.pointer none, .slice none 0 0] (by kernel_rfl) ?_; intro w4 hb4 hg4 hs4; have Hs4 := Lib.hid hs4; clear hs4; simp only [Act.put, List.setIfInBounds_toArray, List.set_cons_succ, List.set_cons_zero]; clear t4)
    | (have _t := t5; refine wpList_alloc rfl rfl 3 #[.int .i64 0] (by kernel_rfl) ?_; intro w5 hb5 hg5 hs5; have Hs5 := Lib.hid hs5; clear hs5; simp only [Act.put, List.setIfInBounds_toArray, List.set_cons_succ, List.set_cons_zero]; clear t5)
    | (have _t := t6; refine wpList_alloc rfl rfl 3 #[.int .i64 0] (by kernel_rfl) ?_; intro w6 hb6 hg6 hs6; have hc1 : w6.cell? ⟨w4.heap.size, 0, none⟩ = some (.int .i64 0) := (hb5.grown hg6 nofun).cell 0; have hf1 : w6.frozen? ⟨w4.heap.size, 0, none⟩ = false := (hb5.grown hg6 nofun).frozen 0; have hc2 : w6.cell? ⟨w5.heap.size, 0, none⟩ = some (.int .i64 0) := hb6.cell 0; have hf2 := hb6.frozen 0; have hbf := hb6.far (p := ⟨w4.heap.size, 0, none⟩) (by have := Hs5.out; simp; omega) (.int .i64 0); have hc3 : (w6.setCell ⟨w4.heap.size, 0, none⟩ (.int .i64 0)).cell? ⟨w5.heap.size, 0, none⟩ = some (.int .i64 0) := hbf.cell 0; have hf3 := hbf.frozen 0; have Hbf := Lib.hid hbf; clear hbf; have Hs6 := Lib.hid hs6; clear hs6; simp only [Act.put, List.setIfInBounds_toArray, List.set_cons_succ, List.set_cons_zero]; clear t6))
  obtain ⟨W, hW⟩ : ∃ W, W = (w6.setCell ⟨w4.heap.size, 0, none⟩ (.int .i64 0)).setCell ⟨w5.heap.size, 0, none⟩ (.int .i64 0) := ⟨_, rfl⟩
  have hE : Enc w1.heap.size w5.heap.size w3.heap.size w1.heap.size w4.heap.size ⟨[], 0, 0⟩ W := by
    have s2 := Hs2.out; have s3 := Hs3.out; have s4 := Hs4.out; have s5 := Hs5.out; have s6 := Hs6.out
    rw [hW]
    refine ⟨?_, ?_, ?_, ?_⟩
    · exact blk_new_bld _ _ _ (by omega) ((((hb4.grown hg5 nofun).grown hg6 nofun).far (by simp; omega) _).far (by simp; omega) _)
    · exact blk_set Hbf.out _
    · exact (blk_set (hb5.grown hg6 nofun) _).far (by simp; omega) _
    · exact (((((show Blk w3 w1.heap.size 54 T64 from h3).grown hg4 nofun).grown hg5 nofun).grown hg6 nofun).far (by simp; omega) _).far (by simp; omega) _
  have hb : Below w.heap.size w W := by
    have s1 := hb1.size; have s2 := Hs2.out; have s3 := Hs3.out; have s4 := Hs4.out; have s5 := Hs5.out; have s6 := Hs6.out
    rw [hW]
    exact ((((((hb1.grown hg2 s1 nofun).grown hg3 (by omega) (fun j hj => by injection hj with hj; omega)).grown hg4 (by omega) nofun).grown hg5 (by omega) nofun).grown hg6 (by omega) nofun).setCell (p := ⟨w4.heap.size, 0, none⟩) (by simp; omega) _).setCell (p := ⟨w5.heap.size, 0, none⟩) (by simp; omega) _
  have hsz : w5.heap.size < W.heap.size := by rw [hW]; have := Hs6.out; simpa using this
  obtain ⟨bs, hbs⟩ : ∃ g, g = w3.heap.size := ⟨_, rfl⟩
  obtain ⟨bb, hbb⟩ : ∃ g, g = w4.heap.size := ⟨_, rfl⟩
  obtain ⟨bc, hbc⟩ : ∃ g, g = w5.heap.size := ⟨_, rfl⟩
  obtain ⟨ba, hba⟩ : ∃ g, g = w1.heap.size := ⟨_, rfl⟩
  have ho : w.heap.size ≤ ba ∧ ba < bs ∧ bs < bb ∧ bb < bc := by
    have s1 := hb1.size; have s2 := Hs2.out; have s3 := Hs3.out; have s4 := Hs4.out; have s5 := Hs5.out
    omega
  rw [← hbs, ← hbb, ← hbc, ← hba] at hE
  rw [← hbc] at hsz
  rw [← hW, ← hbs, ← hbb, ← hbc, ← hba]
  clear hc1 hf1 hc2 hf2 hc3 hf3 Hbf hbs hbb hbc hba hW hb1 hb2 hb4 hb5 hb6 h3 hg2 hg3 hg4 hg5 hg6 Hs2 Hs3 Hs4 Hs5 Hs6
  go_loopw [14, 9] (fun i _ wr => ∃ k : Nat, k ≤ n ∧ i = .int .i64 k ∧ Enc ba bc bs ba bb (runS (l.take k)) wr ∧ Below w.heap.size w wr ∧ bc < wr.heap.size) (fun i _ _ => n - (intOf i).toNat)
  case atStart => exact ⟨0, Nat.zero_le _, rfl, hE, hb, hsz⟩
  case round =>
    obtain ⟨k, hk, rfl, hE1, hb1, hsz1⟩ := hrel
    by_cases hlt : k < n
    · have hkl : k < l.length := by rw [Hl.out]; exact hlt
      obtain ⟨ad, rfl, hcell⟩ : ∃ ad, A = some ad ∧ wr.cell? (ad.add k) = some (.int .u8 (l[k]).toNat) := by
        rcases hr.below hb1 with h | ⟨ad, rfl, h⟩
        · have : (idc l).length = 0 := by rw [h]; rfl
          rw [idc_length] at this; omega
        · exact ⟨ad, rfl, h k _ (by simp [idc, hkl])⟩
      obtain ⟨x, hx⟩ : ∃ x, x = l[k] := ⟨_, rfl⟩
      rw [← hx] at hcell
      have Hs := Lib.hid (runS_succ l k x (by rw [hx]; exact List.getElem?_eq_getElem hkl))
      clear hx
      have hok := runS_ok (l.take k)
      have hlen := runS_len (l.take k)
      generalize runS (l.take k) = st at hE1 Hs hok hlen
      obtain ⟨o, bits, cnt⟩ := st
      obtain ⟨hcnt, hbits⟩ := hok
      simp only at hcnt hbits hlen
      have hol : o.length ≤ 900000 := by rw [List.length_take] at hlen; omega
      obtain ⟨m, hm⟩ : ∃ m, m = bits * 256 + x.toNat := ⟨_, rfl⟩
      have hx8 := x.toNat_lt
      have hb4 : bits < 16 := by rcases hcnt with rfl | rfl | rfl <;> omega
      have hor := i64_join bits x.toNat 8 (by omega) (by omega)
      rw [show (2:Nat) ^ 8 = 256 from rfl, ← hm] at hor
      simp at hor
      have c1 : wr.cell? ⟨bb, 0, none⟩ = some (.int .i64 bits) := hE1.bits.cell 0
      have c2 : wr.cell? ⟨bc, 0, none⟩ = some (.int .i64 cnt) := hE1.cnt.cell 0
      have f1 := hE1.bits.frozen 0
      have f2 := hE1.cnt.frozen 0
      have hne : bc ≠ bs ∧ bc ≠ ba ∧ bc ≠ bb ∧ bs ≠ ba ∧ bs ≠ bb ∧ ba ≠ bb := by omega
      have hE2 := (enc_set hE1 hne m (cnt + 8)).drew
      have hB2 : Below ba wr ((wr.setCell ⟨bb, 0, none⟩ (.int .i64 m)).setCell ⟨bc, 0, none⟩ (.int .i64 (cnt + 8 : Nat))).drew :=
        (((Below.refl ba wr).setCell (p := ⟨bb, 0, none⟩) (by simp; omega) _).setCell (p := ⟨bc, 0, none⟩) (by simp; omega) _).drew
      have He := Lib.hid hE2
      have Hb := Lib.hid hB2
      have Hm := Lib.hid hm
      have hm13 : m < 2 ^ 13 := by omega
      clear hm hE2 hE1 hkl hB2
      rcases hcnt with rfl | rfl | rfl
      · go_wp2_with fail
        go_region
        generalize hWg : ((wr.setCell { block := bb, off := 0 } (Value.int IntKind.i64 m)).setCell { block := bc, off := 0 } (Value.int IntKind.i64 8)).drew = Wg
        have hE3 : Enc ba bc bs ba bb ⟨o, m, 8⟩ Wg := by rw [← hWg]; exact He.out
        have hB3 : Below ba wr Wg := by rw [← hWg]; exact Hb.out
        have d1 : Wg.cell? ⟨bc, 0, none⟩ = some (.int .i64 8) := hE3.cnt.cell 0
        clear He Hb hWg
        go_wp2_with fail
        refine wp_loop_rounds 2 ?_
        rw [rounds_succ]
        go_wp2_with (go_at_call 20; go_must (refine (emit_enc ba bc bs ba bb (⟨o, m, 8⟩) (by omega) hne (.inr (.inl rfl)) hm13 (by simp; omega) _ (by have := hB3.size; omega) hE3).mono ?_; rintro e v0 ⟨rfl, hF0, hC0⟩; have d2 : v0.cell? ⟨bc, 0, none⟩ = some (.int .i64 2) := hF0.cnt.cell 0; have hD0 := hB3.trans hC0))
        rw [rounds_succ]
        go_wp2_with fail
        have hb5 : Below w.heap.size w v0 := hb1.trans (hD0.mono (by omega))
        refine ⟨⟨k + 1, by omega, by go_num, ?_, hb5, by have := hD0.size; omega⟩, by simp [intOf]; omega⟩
        rw [Hs.out]
        have hst : stepS ⟨o, bits, 0⟩ x = emitS (⟨o, m, 8⟩) := by rw [Hm.out]; rfl
        rw [hst]
        exact hF0
      · go_wp2_with fail
        go_region
        generalize hWg : ((wr.setCell { block := bb, off := 0 } (Value.int IntKind.i64 m)).setCell { block := bc, off := 0 } (Value.int IntKind.i64 10)).drew = Wg
        have hE3 : Enc ba bc bs ba bb ⟨o, m, 10⟩ Wg := by rw [← hWg]; exact He.out
        have hB3 : Below ba wr Wg := by rw [← hWg]; exact Hb.out
        have d1 : Wg.cell? ⟨bc, 0, none⟩ = some (.int .i64 10) := hE3.cnt.cell 0
        clear He Hb hWg
        go_wp2_with fail
        refine wp_loop_rounds 2 ?_
        rw [rounds_succ]
        go_wp2_with (go_at_call 20; go_must (refine (emit_enc ba bc bs ba bb (⟨o, m, 10⟩) (by omega) hne (.inr (.inr (.inl rfl))) hm13 (by simp; omega) _ (by have := hB3.size; omega) hE3).mono ?_; rintro e v0 ⟨rfl, hF0, hC0⟩; have d2 : v0.cell? ⟨bc, 0, none⟩ = some (.int .i64 4) := hF0.cnt.cell 0; have hD0 := hB3.trans hC0))
        rw [rounds_succ]
        go_wp2_with fail
        have hb5 : Below w.heap.size w v0 := hb1.trans (hD0.mono (by omega))
        refine ⟨⟨k + 1, by omega, by go_num, ?_, hb5, by have := hD0.size; omega⟩, by simp [intOf]; omega⟩
        rw [Hs.out]
        have hst : stepS ⟨o, bits, 2⟩ x = emitS (⟨o, m, 10⟩) := by rw [Hm.out]; rfl
        rw [hst]
        exact hF0
      · go_wp2_with fail
        go_region
        generalize hWg : ((wr.setCell { block := bb, off := 0 } (Value.int IntKind.i64 m)).setCell { block := bc, off := 0 } (Value.int IntKind.i64 12)).drew = Wg
        have hE3 : Enc ba bc bs ba bb ⟨o, m, 12⟩ Wg := by rw [← hWg]; exact He.out
        have hB3 : Below ba wr Wg := by rw [← hWg]; exact Hb.out
        have d1 : Wg.cell? ⟨bc, 0, none⟩ = some (.int .i64 12) := hE3.cnt.cell 0
        clear He Hb hWg
        go_wp2_with fail
        refine wp_loop_rounds 3 ?_
        rw [rounds_succ]
        go_wp2_with (go_at_call 20; go_must (refine (emit_enc ba bc bs ba bb (⟨o, m, 12⟩) (by omega) hne (.inr (.inr (.inr rfl))) hm13 (by simp; omega) _ (by have := hB3.size; omega) hE3).mono ?_; rintro e v0 ⟨rfl, hF0, hC0⟩; have d2 : v0.cell? ⟨bc, 0, none⟩ = some (.int .i64 6) := hF0.cnt.cell 0; have hD0 := hB3.trans hC0))
        rw [rounds_succ]
        go_wp2_with (go_at_call 20; go_must (refine (emit_enc ba bc bs ba bb (emitS (⟨o, m, 12⟩)) (by omega) hne (.inl rfl) (emit_small hm13) (by simp [emitS]; omega) _ (by have := hD0.size; omega) hF0).mono ?_; rintro e v1 ⟨rfl, hF1, hC1⟩; have d3 : v1.cell? ⟨bc, 0, none⟩ = some (.int .i64 0) := hF1.cnt.cell 0; have hD1 := hD0.trans hC1))
        rw [rounds_succ]
        go_wp2_with fail
        have hb5 : Below w.heap.size w v1 := hb1.trans (hD1.mono (by omega))
        refine ⟨⟨k + 1, by omega, by go_num, ?_, hb5, by have := hD1.size; omega⟩, by simp [intOf]; omega⟩
        rw [Hs.out]
        have hst : stepS ⟨o, bits, 4⟩ x = emitS (emitS (⟨o, m, 12⟩)) := by rw [Hm.out]; rfl
        rw [hst]
        exact hF1
    · have e : k = n := by omega
      subst e
      have ht : l.take k = l := List.take_of_length_le (Nat.le_of_eq Hl.out)
      rw [ht] at hE1
      have hok := runS_ok l
      have hlen := runS_len l
      have HS : Hid (encS l = padS (lastS (runS l))) := Lib.hid rfl
      have hll := lastS_len (runS l)
      rw [Hl.out] at hlen
      generalize runS l = st at hE1 hok hlen HS hll
      obtain ⟨o, bits, cnt⟩ := st
      obtain ⟨hcnt, hbits⟩ := hok
      simp only at hcnt hbits hlen
      have c1 : wr.cell? ⟨bb, 0, none⟩ = some (.int .i64 bits) := hE1.bits.cell 0
      have c2 : wr.cell? ⟨bc, 0, none⟩ = some (.int .i64 cnt) := hE1.cnt.cell 0
      have f1 := hE1.bits.frozen 0
      have f2 := hE1.cnt.frozen 0
      have hne : bc ≠ bs ∧ bc ≠ ba ∧ bc ≠ bb ∧ bs ≠ ba ∧ bs ≠ bb ∧ ba ≠ bb := by omega
      rcases hcnt with rfl | rfl | rfl
      · go_wp2_with fail
        obtain ⟨o', ho'⟩ : ∃ o', o' = lastS ⟨o, bits, 0⟩ := ⟨_, rfl⟩
        have hX : BldF ba bs (idc o') wr := by rw [ho']; exact hE1.bld
        have hBx := hb1
        have hsx : ba ≤ wr.heap.size := by omega
        rw [← ho'] at HS hll
        clear ho'
        have hol' : o'.length ≤ 500000 := by have : o'.length ≤ o.length + 1 := hll; omega
        go_loopg [] ((4 - o'.length % 4) % 4) (fun q wr' => ∃ j : Nat, j + q = (4 - o'.length % 4) % 4 ∧ BldF ba bs (idc (o' ++ List.replicate j 61)) wr' ∧ Below w.heap.size w wr' ∧ ba ≤ wr'.heap.size)
        case atStart => exact ⟨0, by omega, by simpa using hX, hBx, hsx⟩
        case round =>
          obtain ⟨j, hj, hY, hBy, hsy⟩ := hrel
          have hL : (idc (o' ++ List.replicate j 61)).length = o'.length + j := by rw [idc_length]; simp
          obtain ⟨L, hLL⟩ : ∃ L, L = o'.length + j := ⟨_, rfl⟩
          rw [← hLL] at hL
          have HLL := Lib.hid hLL
          have hL5 : L ≤ 600000 := by omega
          have HLn := Lib.hid hL
          by_cases hz : gk = 0
          · have hmod : ((L : Int) % 4 == 0) = true := by rw [beq_iff_eq]; omega
            have hmod2 : (L : Int) % 4 = 0 := by omega
            have Hz := Lib.hid hz
            clear hz hLL hL
            go_wp2_with (first
              | (go_at_call 22; go_must (refine (len_calls ba bs _ _ hY).mono ?_; rw [HLn.out]; rintro e w8 ⟨rfl, rfl⟩))
              | (go_at_call 18; go_must (refine (string_calls ba bs _ _ hY hsy).mono ?_; rintro e w9 ⟨rfl, hY9, hB9⟩)))
            go_ret
            refine ⟨?_, hBy.trans (hB9.mono (by omega))⟩
            rw [HS.out]
            have hz := Hz.out
            subst hz
            unfold padS
            rw [← hj]
            rfl
          · have hmod : ¬ (L : Int) % 4 = 0 := by omega
            have Hz := Lib.hid hz
            clear hz hLL hL
            go_wp2_with (first
              | (go_at_call 22; go_must (refine (len_calls ba bs _ _ hY).mono ?_; rw [HLn.out]; rintro e w8 ⟨rfl, rfl⟩))
              | (go_at_call 21; go_must (refine (writeByte_calls ba bs _ 61 _ hY (by rw [HLn.out]; omega) hsy).mono ?_; rintro e w9 ⟨rfl, hY9, hB9, hO9⟩)))
            go_roundg (gk - 1)
            case measure => have := Hz.out; omega
            case rel =>
              refine ⟨j + 1, by have := Hz.out; omega, .inr ?_, hBy.trans (hB9.mono (by omega)), by have := hB9.size; omega⟩
              have e2 : idc (o' ++ List.replicate (j + 1) 61) = idc (o' ++ List.replicate j 61) ++ [.int .u8 (61 : Nat)] := by
                rw [List.replicate_succ', ← List.append_assoc]
                simp [idc]
              rw [e2]
              exact hY9
      · have hEE := enc_set hE1 hne (bits * 16) 6
        rw [show ((bits * 16 : Nat) : Int) = (bits : Int) * 16 from by simp, show ((6 : Nat) : Int) = 6 from rfl] at hEE
        have c3 : (wr.setCell ⟨bb, 0, none⟩ (.int .i64 ((bits : Int) * 16))).cell? ⟨bc, 0, none⟩ = some (.int .i64 2) := (hE1.cnt.far (p := ⟨bb, 0, none⟩) hne.2.2.1 _).cell 0
        have f3 : (wr.setCell ⟨bb, 0, none⟩ (.int .i64 ((bits : Int) * 16))).frozen? ⟨bc, 0, none⟩ = false := (hE1.cnt.far (p := ⟨bb, 0, none⟩) hne.2.2.1 _).frozen 0
        go_wp2_with (go_at_call 20; go_must (refine (emit_enc ba bc bs ba bb ⟨o, bits * 16, 6⟩ (by omega) hne (.inl rfl) (by simp; omega) (by simp; omega) _ (by simp; omega) hEE).mono ?_; rintro e w2 ⟨rfl, hF, hC⟩))
        obtain ⟨o', ho'⟩ : ∃ o', o' = lastS ⟨o, bits, 2⟩ := ⟨_, rfl⟩
        have hX : BldF ba bs (idc o') w2 := by rw [ho']; exact hF.bld
        have hBx : Below w.heap.size w w2 := hb1.trans (((((Below.refl ba wr).setCell (p := ⟨bb, 0, none⟩) (by simp; omega) _).setCell (p := ⟨bc, 0, none⟩) (by simp; omega) _).trans hC).mono (by omega))
        have hsx : ba ≤ w2.heap.size := by have := hC.size; simp at this; omega
        rw [← ho'] at HS hll
        clear ho'
        have hol' : o'.length ≤ 500000 := by have : o'.length ≤ o.length + 1 := hll; omega
        go_loopg [] ((4 - o'.length % 4) % 4) (fun q wr' => ∃ j : Nat, j + q = (4 - o'.length % 4) % 4 ∧ BldF ba bs (idc (o' ++ List.replicate j 61)) wr' ∧ Below w.heap.size w wr' ∧ ba ≤ wr'.heap.size)
        case atStart => exact ⟨0, by omega, by simpa using hX, hBx, hsx⟩
        case round =>
          obtain ⟨j, hj, hY, hBy, hsy⟩ := hrel
          have hL : (idc (o' ++ List.replicate j 61)).length = o'.length + j := by rw [idc_length]; simp
          obtain ⟨L, hLL⟩ : ∃ L, L = o'.length + j := ⟨_, rfl⟩
          rw [← hLL] at hL
          have HLL := Lib.hid hLL
          have hL5 : L ≤ 600000 := by omega
          have HLn := Lib.hid hL
          by_cases hz : gk = 0
          · have hmod : ((L : Int) % 4 == 0) = true := by rw [beq_iff_eq]; omega
            have hmod2 : (L : Int) % 4 = 0 := by omega
            have Hz := Lib.hid hz
            clear hz hLL hL
            go_wp2_with (first
              | (go_at_call 22; go_must (refine (len_calls ba bs _ _ hY).mono ?_; rw [HLn.out]; rintro e w8 ⟨rfl, rfl⟩))
              | (go_at_call 18; go_must (refine (string_calls ba bs _ _ hY hsy).mono ?_; rintro e w9 ⟨rfl, hY9, hB9⟩)))
            go_ret
            refine ⟨?_, hBy.trans (hB9.mono (by omega))⟩
            rw [HS.out]
            have hz := Hz.out
            subst hz
            unfold padS
            rw [← hj]
            rfl
          · have hmod : ¬ (L : Int) % 4 = 0 := by omega
            have Hz := Lib.hid hz
            clear hz hLL hL
            go_wp2_with (first
              | (go_at_call 22; go_must (refine (len_calls ba bs _ _ hY).mono ?_; rw [HLn.out]; rintro e w8 ⟨rfl, rfl⟩))
              | (go_at_call 21; go_must (refine (writeByte_calls ba bs _ 61 _ hY (by rw [HLn.out]; omega) hsy).mono ?_; rintro e w9 ⟨rfl, hY9, hB9, hO9⟩)))
            go_roundg (gk - 1)
            case measure => have := Hz.out; omega
            case rel =>
              refine ⟨j + 1, by have := Hz.out; omega, .inr ?_, hBy.trans (hB9.mono (by omega)), by have := hB9.size; omega⟩
              have e2 : idc (o' ++ List.replicate (j + 1) 61) = idc (o' ++ List.replicate j 61) ++ [.int .u8 (61 : Nat)] := by
                rw [List.replicate_succ', ← List.append_assoc]
                simp [idc]
              rw [e2]
              exact hY9
      · have hEE := enc_set hE1 hne (bits * 4) 6
        rw [show ((bits * 4 : Nat) : Int) = (bits : Int) * 4 from by simp, show ((6 : Nat) : Int) = 6 from rfl] at hEE
        have c3 : (wr.setCell ⟨bb, 0, none⟩ (.int .i64 ((bits : Int) * 4))).cell? ⟨bc, 0, none⟩ = some (.int .i64 4) := (hE1.cnt.far (p := ⟨bb, 0, none⟩) hne.2.2.1 _).cell 0
        have f3 : (wr.setCell ⟨bb, 0, none⟩ (.int .i64 ((bits : Int) * 4))).frozen? ⟨bc, 0, none⟩ = false := (hE1.cnt.far (p := ⟨bb, 0, none⟩) hne.2.2.1 _).frozen 0
        go_wp2_with (go_at_call 20; go_must (refine (emit_enc ba bc bs ba bb ⟨o, bits * 4, 6⟩ (by omega) hne (.inl rfl) (by simp; omega) (by simp; omega) _ (by simp; omega) hEE).mono ?_; rintro e w2 ⟨rfl, hF, hC⟩))
        obtain ⟨o', ho'⟩ : ∃ o', o' = lastS ⟨o, bits, 4⟩ := ⟨_, rfl⟩
        have hX : BldF ba bs (idc o') w2 := by rw [ho']; exact hF.bld
        have hBx : Below w.heap.size w w2 := hb1.trans (((((Below.refl ba wr).setCell (p := ⟨bb, 0, none⟩) (by simp; omega) _).setCell (p := ⟨bc, 0, none⟩) (by simp; omega) _).trans hC).mono (by omega))
        have hsx : ba ≤ w2.heap.size := by have := hC.size; simp at this; omega
        rw [← ho'] at HS hll
        clear ho'
        have hol' : o'.length ≤ 500000 := by have : o'.length ≤ o.length + 1 := hll; omega
        go_loopg [] ((4 - o'.length % 4) % 4) (fun q wr' => ∃ j : Nat, j + q = (4 - o'.length % 4) % 4 ∧ BldF ba bs (idc (o' ++ List.replicate j 61)) wr' ∧ Below w.heap.size w wr' ∧ ba ≤ wr'.heap.size)
        case atStart => exact ⟨0, by omega, by simpa using hX, hBx, hsx⟩
        case round =>
          obtain ⟨j, hj, hY, hBy, hsy⟩ := hrel
          have hL : (idc (o' ++ List.replicate j 61)).length = o'.length + j := by rw [idc_length]; simp
          obtain ⟨L, hLL⟩ : ∃ L, L = o'.length + j := ⟨_, rfl⟩
          rw [← hLL] at hL
          have HLL := Lib.hid hLL
          have hL5 : L ≤ 600000 := by omega
          have HLn := Lib.hid hL
          by_cases hz : gk = 0
          · have hmod : ((L : Int) % 4 == 0) = true := by rw [beq_iff_eq]; omega
            have hmod2 : (L : Int) % 4 = 0 := by omega
            have Hz := Lib.hid hz
            clear hz hLL hL
            go_wp2_with (first
              | (go_at_call 22; go_must (refine (len_calls ba bs _ _ hY).mono ?_; rw [HLn.out]; rintro e w8 ⟨rfl, rfl⟩))
              | (go_at_call 18; go_must (refine (string_calls ba bs _ _ hY hsy).mono ?_; rintro e w9 ⟨rfl, hY9, hB9⟩)))
            go_ret
            refine ⟨?_, hBy.trans (hB9.mono (by omega))⟩
            rw [HS.out]
            have hz := Hz.out
            subst hz
            unfold padS
            rw [← hj]
            rfl
          · have hmod : ¬ (L : Int) % 4 = 0 := by omega
            have Hz := Lib.hid hz
            clear hz hLL hL
            go_wp2_with (first
              | (go_at_call 22; go_must (refine (len_calls ba bs _ _ hY).mono ?_; rw [HLn.out]; rintro e w8 ⟨rfl, rfl⟩))
              | (go_at_call 21; go_must (refine (writeByte_calls ba bs _ 61 _ hY (by rw [HLn.out]; omega) hsy).mono ?_; rintro e w9 ⟨rfl, hY9, hB9, hO9⟩)))
            go_roundg (gk - 1)
            case measure => have := Hz.out; omega
            case rel =>
              refine ⟨j + 1, by have := Hz.out; omega, .inr ?_, hBy.trans (hB9.mono (by omega)), by have := hB9.size; omega⟩
              have e2 : idc (o' ++ List.replicate (j + 1) 61) = idc (o' ++ List.replicate j 61) ++ [.int .u8 (61 : Nat)] := by
                rw [List.replicate_succ', ← List.append_assoc]
                simp [idc]
              rw [e2]
              exact hY9
end Go.Proofs.YtkmkidbajmbigaaDoor
