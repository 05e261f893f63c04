/- Parent of chapter 14 is walked; the chain of answers. -/
import Derived.Test.YtafpndmoognjlaaR3
namespace Go.Proofs.Ytafpndmoognjlaa
open Go.ChangeShapes Go.WideShapes Go.ChangeAt Go.RowKit

theorem results_id_tmp {fn : Func} {p t : Tmp} {ty : TypeId} (h : fn.results = #[.cell p ty, .tmp t]) (tmps : Array Value) (w : World) {P : Program} (ht : isId P ty = true) (a : Addr) (x : List UInt8) (hp : tmps.getD p undef = .pointer (some a)) (hx : IdAt w a x) :
    (results fn tmps).run P w = .ok (.tuple #[idv x, tmps.getD t undef]) w := by
  have hl := run_load_id (P := P) w hx ht
  simp only [Instr.loadAt, Instr.sureAddr, Sem.run_bind, Sem.run_pure, Result.andThen_ok] at hl
  have hp' : tmps[p]?.getD undef = .pointer (some a) := by simpa using hp
  simp [results, h, hp', asAddr, hl]

set_option maxRecDepth 100000 in
set_option maxHeartbeats 400000 in
theorem parent_calls (A : Option Addr) (ls : List (List UInt8)) (c n : Nat) (x : List UInt8) (hx : ls[n - 1]? = some x) (hln : ls.length = n) (hn0 : 0 < n) (hn : n ≤ 65536) (w : World) (hl : Ids w A ls) :
    Calls Try.prog 19 #[.slice A n c] w fun e w' => e = .returned (.tuple #[idv x, .bool true]) ∧ Below w.heap.size w w' := by
  have t1 : True := trivial
  have t2 : True := trivial
  have t3 : True := trivial
  obtain ⟨ad, y, rfl, hy, hy32, hA⟩ := hl.at_ (k := n - 1) (by omega)
  obtain rfl : x = y := Option.some.inj (hx.symm.trans hy)
  have hn0' : ((n : Int) == 0) = false := by rw [beq_eq_false_iff_ne]; omega
  clear hx hy hln
  go_enter Try.func19, Try.ntmps19
  go_wp2_with (first
    | (have _t := t1; refine wpList_alloc rfl rfl 33 (idc zid).toArray (by kernel_rfl) ?_; intro w1 hb1 hg1 hs1; have hA1 := hA.below (grownBy_below hg1); simp only [Act.put, List.setIfInBounds_toArray, List.set_cons_succ, List.set_cons_zero]; clear t1)
    | (have _t := t2; refine wpList_load_id rfl 33 _ rfl _ rfl x (by kernel_rfl) hA1 ?_; simp only [Act.put, List.setIfInBounds_toArray, List.set_cons_succ, List.set_cons_zero]; clear t2)
    | (have _t := t3; refine wpList_store_box rfl 33 _ _ rfl w.heap.size (idc x) rfl rfl (t := 33) hb1 (by simp [idc_length, hy32, zid_len]) (by rw [idc_length, hy32]; kernel_rfl) (idc_one _) ?_; intro w2 hb2 hg2 hs2; have Hs2 := Lib.hid hs2; clear hs2; simp only [Act.put]; clear t3))
  refine bodyPost_ret (v := .tuple #[idv x, .bool true]) (results_id_tmp (fn := Try.f19) (p := 2) (t := 3) rfl _ w2 (by kernel_rfl) ⟨w.heap.size, 0, none⟩ x rfl (hb2.id_at hy32)) rfl ⟨rfl, ?_⟩
  exact grownBy_below (grownBy_new hg1 hg2 (Nat.le_refl _))

/-- the identity of the article number k -/
def nid (k : Nat) : List UInt8 := idk (UInt8.ofNat k)
theorem nid_len (k : Nat) : (nid k).length = 32 := rfl
/-- the list of the article number i + 1 -/
def chain (i : Nat) : List (List UInt8) := if i ≤ 20 then (List.range i).map fun j => nid (j + 1) else nid 1 :: (List.range 19).map fun j => nid (i - 18 + j)
theorem chain_reply : ∀ i, i < 60 → replyE (chain i) (nid (i + 1)) = 0 ∧ replyL (chain i) (nid (i + 1)) = chain (i + 1) ∧ (chain (i + 1)).length = min (i + 1) 20 ∧ chk (chain (i + 1)) = 0 ∧
    (chain (i + 1))[(chain (i + 1)).length - 1]? = some (nid (i + 1)) ∧ (chain (i + 1))[0]? = some (nid 1) := by decide +kernel
theorem chain_at : ∀ i, i < 60 → ∀ k, k < min (i + 1) 20 → 1 ≤ k → (chain (i + 1))[min (i + 1) 20 - k]? = some (nid (i + 2 - k)) := by decide +kernel

section
variable {P : Program}
/-- under a guard that says yes -/
theorem wpListg_load_id {ops : Array Oper} {rest : List Oper} {o : Oper} {a : Act} {w : World} {Q : Exit → Act → World → Prop} (hw : Region.wanted o (yielded ops a.tmps) = true) (t : TypeId) (x : Operand) (ho : o.op = .load t x)
    (ad : Addr) (hx : a.eval x = .pointer (some ad)) (l : List UInt8) (ht : isId P t = true) (hc : IdAt w ad l) (h : wpList P ops Q rest (a.put o.dst (idv l)) w) : wpList P ops Q (o :: rest) a w :=
  BigFrame.wpList_want hw fun _ hK => wp_load_id t x ho ad hx l ht hc (hK _ _ h)
theorem wpListg_value {ops : Array Oper} {rest : List Oper} {o : Oper} {a : Act} {w : World} {Q : Exit → Act → World → Prop} (hw : Region.wanted o (yielded ops a.tmps) = true) (_hk : isLit o.op = true) (v : Value) (hv : (execOp a.eval o).run P w = .ok (.value v) w)
    (h : wpList P ops Q rest (a.put o.dst v) w) : wpList P ops Q (o :: rest) a w :=
  BigFrame.wpList_want hw fun _ hK => by unfold Oper.wp; rw [hv]; exact hK _ _ h
end
/-- an identity of a first byte, as the program builds it -/
def built (z : Int) : Value := .agg (Value.int .u8 z :: idc (List.replicate 31 0)).toArray
theorem built_nid (k : Nat) (h : k < 256) : built k = idv (nid k) := by
  have : (UInt8.ofNat k).toNat = k := by rw [UInt8.toNat_ofNat']; omega
  unfold built idv nid idk idc
  rw [List.map_cons, this]

set_option maxRecDepth 100000 in
set_option maxHeartbeats 1000000 in
theorem chain_law (a : Nat) (ha : a ≤ 255) (w : World) :
    Calls Try.prog 7 #[.int .u8 a] w fun e w' => e = .returned (.bool true) ∧ Below w.heap.size w w' := by
  go_enter Try.func7, Try.ntmps7
  go_wp2_with fail
  refine (known_calls _).mono ?_
  rintro e w1 ⟨rfl, hb1⟩
  go_wp2_with fail
  obtain ⟨m, hm1, hm2, hm60⟩ : ∃ m : Nat, (m : Int) ≤ (a : Int) % 60 ∧ (a : Int) % 60 ≤ (m : Int) ∧ m < 60 := ⟨a % 60, by omega, by omega, by omega⟩
  go_loopw [3, 4] (fun l i wr => ∃ k : Nat, k ≤ m ∧ i = .int .i64 k ∧ ∃ A c, l = .slice A (chain k).length c ∧ (chain k).length ≤ c ∧ c ≤ maxLen ∧ Ids wr A (chain k) ∧ Below w.heap.size w wr) (fun _ i _ => m - (intOf i).toNat)
  case atStart => exact ⟨0, Nat.zero_le _, rfl, none, 0, rfl, Nat.le_refl _, Nat.zero_le _, Ids.nil _ _, hb1⟩
  case round =>
    obtain ⟨k, hk, rfl, A, c, rfl, hlc, hcm, hI, hb⟩ := hrel
    by_cases hlt : k < m
    · obtain ⟨q1, q2, q3, q4, q5, q6⟩ := chain_reply k (by omega)
      have hat := Lib.hid (chain_at k (by omega))
      have Hb1 : Hid (built ((k : Int) + 1) = idv (nid (k + 1))) := Lib.hid (built_nid (k + 1) (by omega))
      have Q1 := Lib.hid q1
      have Q2 := Lib.hid q2
      have Q3 := Lib.hid q3
      have Q4 := Lib.hid q4
      have Q5 := Lib.hid q5
      have Q6 := Lib.hid q6
      have hlk : (chain k).length ≤ 65536 := by
        unfold chain
        split <;> simp <;> omega
      clear q1 q2 q3 q4 q5 q6
      generalize hck : chain k = ck at *
      generalize hcl : ck.length = n at *
      have Hcl := Lib.hid hcl
      clear hck hcl
      have t1 : True := trivial
      have t2 : True := trivial
      have t3 : True := trivial
      have t4 : True := trivial
      go_wp2_with (first
        | (have _t := t1; refine wpList_value rfl rfl (built ((k : Int) + 1)) (by kernel_rfl) ?_; rw [Hb1.out]; simp only [Act.put, List.setIfInBounds_toArray, List.set_cons_succ, List.set_cons_zero]; clear t1)
        | (have _t := t2; refine wpList_alloc rfl rfl 33 (idc zid).toArray (by kernel_rfl) ?_; intro w2 hb2 hg2 hs2; simp only [Act.put, List.setIfInBounds_toArray, List.set_cons_succ, List.set_cons_zero]; clear t2)
        | (have _t := t3; refine wpList_store_box rfl 33 _ _ rfl wr.heap.size (idc (nid (k + 1))) rfl rfl (t := 33) hb2 (by simp [idc_length, nid_len, zid_len]) (by kernel_rfl) (idc_one _) ?_; intro w3 hb3 hg3 hs3; have Hs3 := Lib.hid hs3; clear hs3; simp only [Act.put]; clear t3)
        | (have _t := t4; refine wpList_load_id rfl 33 _ rfl _ rfl (nid (k + 1)) (by kernel_rfl) (hb3.id_at (nid_len _)) ?_; simp only [Act.put, List.setIfInBounds_toArray, List.set_cons_succ, List.set_cons_zero]; clear t4))
      have hB3 : Below w.heap.size w w3 := (hb.grown hg2 hb.size nofun).grown hg3 (by have := hb.size; omega) (fun j hj => by injection hj with hj; have := hb.size; omega)
      have hbx := hb3.id_at (nid_len (k + 1))
      have hI3 : Ids w3 A ck := hI.below (grownBy_below (grownBy_new hg2 hg3 (Nat.le_refl _)))
      clear hb2 hb3 hg2 hg3 hs2
      refine (reply_calls A ck c n (nid (k + 1)) (nid_len _) Hcl.out hlk hlc _ hI3).mono ?_
      rintro e w4 ⟨A4, c4, rfl, h4c, h4m, hI4, hb4⟩
      rw [Q2.out] at h4c hI4
      rw [Q2.out, Q1.out, Q3.out, show ((0 : Nat) : Int) = 0 from rfl]
      rw [Q3.out] at h4c
      have Hp20 : min (k + 1) 20 ≤ 20 := Nat.min_le_right _ _
      have Hp0 : 0 < min (k + 1) 20 := by omega
      have Hpk : min (k + 1) 20 ≤ k + 1 := Nat.min_le_left _ _
      have Hpi : ((min (k + 1) 20 : Nat) : Int) = min ((k : Int) + 1) 20 := by omega
      have HPI := Lib.hid Hpi
      clear Hpi
      have hB4 := hB3.trans (hb4.mono hB3.size)
      have hbx4 := hbx.below hb4
      generalize hnx : chain (k + 1) = nx at *
      generalize hpp : min (k + 1) 20 = p at *
      have Hnx := Lib.hid hnx
      have Hpp := Lib.hid hpp
      clear hnx hpp
      obtain ⟨ad, x, rfl, hx0, hx32, hA0⟩ := hI4.at_ (k := 0) (by rw [Q3.out]; exact Hp0)
      obtain rfl : nid 1 = x := by have := Q6.out; rw [hx0] at this; injection this with this; exact this.symm
      have t5 : True := trivial
      have t6 : True := trivial
      have t7 : True := trivial
      have t8 : True := trivial
      have t9 : True := trivial
      have t10 : True := trivial
      have l1 := nid_len (k + 1)
      have l2 := nid_len 1
      go_wp2_with (first
        | (go_at_call 19; go_must (refine (parent_calls (some ad) nx c4 p (nid (k + 1)) (by have := Q5.out; rwa [Q3.out] at this) Q3.out Hp0 (by omega) _ hI4).mono ?_; rintro e w5 ⟨rfl, hb5⟩))
        | (have _t := t5; refine wpList_alloc rfl rfl 33 (idc zid).toArray (by kernel_rfl) ?_; intro w6 hb6 hg6 hs6; simp only [Act.put, List.setIfInBounds_toArray, List.set_cons_succ, List.set_cons_zero]; clear t5)
        | (have _t := t6; refine wpList_store_box rfl 33 _ _ rfl w5.heap.size (idc (nid (k + 1))) rfl rfl (t := 33) hb6 (by simp [idc_length, nid_len, zid_len]) (by kernel_rfl) (idc_one _) ?_; intro w7 hb7 hg7 hs7; have Hs7 := Lib.hid hs7; clear hs7; simp only [Act.put]; clear t6)
        | (go_at_call 20; go_must (refine (check_calls (some ad) nx c4 p Q3.out _ (hI4.below (hb5.trans ((grownBy_below (grownBy_new hg6 hg7 (Nat.le_refl _))).mono hb5.size)))).mono ?_; rw [Q4.out, show ((0 : Nat) : Int) = 0 from rfl]; rintro e w8 ⟨rfl, hb8⟩; have hb57 := grownBy_below (grownBy_new hg6 hg7 (Nat.le_refl _)); have hB48 : Below w4.heap.size w4 w8 := (hb5.trans (hb57.mono hb5.size)).trans (hb8.mono (by have := hb5.size; have := hb57.size; omega)); have hE7 := (hb7.id_at (nid_len (k + 1))).below hb8; have hE5 := hbx4.below hB48; have hE0 : IdAt w8 ad (nid 1) := hA0.below hB48))
        | (have _t := t7; refine wpListg_load_id rfl 33 _ rfl _ rfl (nid (k + 1)) (by kernel_rfl) hE7 ?_; simp only [Act.put, List.setIfInBounds_toArray, List.set_cons_succ, List.set_cons_zero]; clear t7)
        | (have _t := t8; refine wpListg_load_id rfl 33 _ rfl _ rfl (nid (k + 1)) (by kernel_rfl) hE5 ?_; simp only [Act.put, List.setIfInBounds_toArray, List.set_cons_succ, List.set_cons_zero]; clear t8)
        | (have _t := t9; refine wpListg_load_id rfl 33 _ rfl _ rfl (nid 1) (by kernel_rfl) hE0 ?_; simp only [Act.put, List.setIfInBounds_toArray, List.set_cons_succ, List.set_cons_zero]; clear t9)
        | (have _t := t10; refine wpListg_value rfl rfl (idv (nid 1)) (by kernel_rfl) ?_; simp only [Act.put, List.setIfInBounds_toArray, List.set_cons_succ, List.set_cons_zero]; clear t10))
      have hB8 : Below w.heap.size w w8 := hB4.trans (hB48.mono hB4.size)
      have hI8 := hI4.below hB48
      clear hE7 hE5 hE0 hb7 hb6 hg6 hg7 hb57 hb8 hb5 hB48 hI4 hA0 hx0 hbx4 hbx hI3 hb4 hB4 hB3 hI hb hs6
      obtain ⟨wo, hwo⟩ : ∃ wo : World, wo = wr := ⟨_, rfl⟩
      clear hwo
      go_loop [10] (fun j => ∃ r : Nat, 1 ≤ r ∧ r ≤ p ∧ j = .int .i64 r) (fun j => p - (intOf j).toNat)
      case atStart => exact ⟨1, Nat.le_refl _, Hp0, rfl⟩
      case round =>
        obtain ⟨r, hr1, hrp, rfl⟩ := hrel
        by_cases hrlt : r < p
        · obtain ⟨ad', y, had, hy, hy32, hA⟩ := hI8.at_ (k := p - r) (by rw [Q3.out]; omega)
          injection had with had
          subst had
          have ey : nid (k + 2 - r) = y := by have := hat.out r hrlt hr1; rw [hy] at this; injection this with this; exact this.symm
          subst ey
          have Hb2 : Hid (built ((k : Int) + 2 - (r : Int)) = idv (nid (k + 2 - r))) := Lib.hid (by
            have := built_nid (k + 2 - r) (by omega)
            rwa [show ((k + 2 - r : Nat) : Int) = (k : Int) + 2 - (r : Int) from by omega] at this)
          have l3 := nid_len (k + 2 - r)
          have s1 : True := trivial
          have s2 : True := trivial
          clear hy hy32
          go_wp2_with (first
            | (have _t := s1; refine wpList_load_id rfl 33 _ rfl _ rfl (nid (k + 2 - r)) (by kernel_rfl) hA ?_; simp only [Act.put, List.setIfInBounds_toArray, List.set_cons_succ, List.set_cons_zero]; clear s1)
            | (have _t := s2; refine wpList_value rfl rfl (built ((k : Int) + 2 - (r : Int))) (by kernel_rfl) ?_; rw [Hb2.out]; simp only [Act.put, List.setIfInBounds_toArray, List.set_cons_succ, List.set_cons_zero]; clear s2))
          go_round
          case rel => exact ⟨r + 1, by omega, by omega, by go_num⟩
          case measure => simp [intOf]; omega
        · have e : r = p := by omega
          subst e
          have hmin : ((r : Int) != (if (20 : Int) < (k : Int) + 1 then 20 else (k : Int) + 1)) = false := by
            rw [bne_eq_false_iff_eq]
            have := Hpp.out
            split <;> omega
          have hrel : k + 1 ≤ m ∧ Value.int .i64 ((k : Int) + 1) = .int .i64 (k + 1 : Nat) ∧ ∃ A c, Value.slice (some ad) r c4 = .slice A (chain (k + 1)).length c ∧ (chain (k + 1)).length ≤ c ∧ c ≤ maxLen ∧ Ids w8 A (chain (k + 1)) ∧ Below w.heap.size w w8 := by
            rw [Hnx.out, Q3.out]
            exact ⟨by omega, by go_num, some ad, c4, rfl, h4c, h4m, hI8, hB8⟩
          have Hrel := Lib.hid hrel
          clear hrel
          go_wp2
          go_roundw
          case rel => exact ⟨k + 1, Hrel.out⟩
          case measure => simp [intOf]; omega
    · have e : k = m := by omega
      subst e
      go_wp2
      go_ret
      exact ⟨rfl, hb⟩
end Go.Proofs.Ytafpndmoognjlaa
