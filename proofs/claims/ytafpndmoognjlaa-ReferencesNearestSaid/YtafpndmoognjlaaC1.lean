/- add, Check and Merge of chapter 14 are walked, for slices of at most 65536 identities. -/
import Derived.Test.YtafpndmoognjlaaT5
import Derived.Test.YtafpndmoognjlaaMap
namespace Go.Proofs.Ytafpndmoognjlaa
open Go.ChangeShapes Go.WideShapes Go.ChangeAt Go.RowKit

theorem grownBy_trans {w w1 w2 : World} {r r1 r2 : Option Nat} (h1 : w.grownBy w1 r1) (h2 : w1.grownBy w2 r2) (e1 : r1 = none ∨ r1 = r) (e2 : r2 = none ∨ r2 = r) : w.grownBy w2 r := by
  refine ⟨h2.os.trans h1.os, h2.tape.trans h1.tape, h2.output.trans h1.output, Nat.le_trans h1.size h2.size, fun k hk hne => ?_⟩
  have n1 : some k ≠ r1 := by rcases e1 with e | e <;> rw [e]; exact nofun; exact hne
  have n2 : some k ≠ r2 := by rcases e2 with e | e <;> rw [e]; exact nofun; exact hne
  exact (h2.block k (Nat.lt_of_lt_of_le hk h1.size) n2).trans (h1.block k hk n1)
theorem grownBy_drewN (w : World) (n : Nat) (r : Option Nat) : w.grownBy (w.drewN n) r := ⟨rfl, rfl, rfl, Nat.le_refl _, fun _ _ _ => rfl⟩
theorem grownBy_below {w w' : World} (h : w.grownBy w' none) : Below w.heap.size w w' := ⟨h.os, h.tape, h.output, h.size, fun k hk => h.block k hk nofun⟩
theorem grownBy_of_below {w w' : World} (h : Below w.heap.size w w') (r : Option Nat) : w.grownBy w' r := ⟨h.os, h.tape, h.output, h.size, fun k hk _ => h.block k hk⟩
/-- what a new block's writes leave -/
theorem grownBy_new {w w1 w2 : World} {b : Nat} (h1 : w.grownBy w1 none) (h2 : w1.grownBy w2 (some b)) (hb : w.heap.size ≤ b) : w.grownBy w2 none :=
  ⟨h2.os.trans h1.os, h2.tape.trans h1.tape, h2.output.trans h1.output, Nat.le_trans h1.size h2.size, fun k hk hne =>
    (h2.block k (Nat.lt_of_lt_of_le hk h1.size) (fun e => by injection e with e; omega)).trans (h1.block k hk hne)⟩

/-- the error that one more identity brings -/
def addE (seen : List (List UInt8)) (l : List UInt8) : Nat := if l = zid then 1 else if l ∈ seen then 7 else 0
theorem zid_len : zid.length = 32 := rfl
theorem info4 : (Try.prog.info? 4).map (fun i => (i.zero, i.size, i.bytes)) = some (some (.bool false), 1, 1) := by kernel_rfl

set_option maxRecDepth 100000 in
set_option maxHeartbeats 400000 in
theorem add_calls (b : Nat) (seen : List (List UInt8)) (l : List UInt8) (hl : l.length = 32) (w : World) (hs : IdSet w b seen) :
    Calls Try.prog 32 #[.map (some b), idv l] w fun e w' => e = .returned (.int .i64 (addE seen l)) ∧ w.grownBy w' (some b) ∧ IdSet w' b (if addE seen l = 0 then seen ++ [l] else seen) := by
  obtain ⟨i0, hi0, hz0, hz1, hz2⟩ := info_parts info4
  have hzl := zid_len
  have t1 : True := trivial
  have t2 : True := trivial
  have t3 : True := trivial
  have t4 : True := trivial
  have t5 : True := trivial
  by_cases h1 : l = zid
  · have hE : Hid (addE seen l = 1) := by unfold addE; rw [if_pos h1]; rfl
    have hd := Lib.hid h1
    rw [hE.out, if_neg (by omega)]
    clear h1
    go_enter Try.func32, Try.ntmps32
    go_wp2_with (first
      | (have _t := t1; refine wpList_alloc rfl rfl 33 (idc l).toArray (by kernel_rfl) ?_; intro w1 hb1 hg1 hs1; simp only [Act.put, List.setIfInBounds_toArray, List.set_cons_succ, List.set_cons_zero]; clear t1)
      | (have _t := t2; refine wpList_load_id rfl 33 _ rfl _ rfl l (by kernel_rfl) (hb1.id_at hl) ?_; simp only [Act.put, List.setIfInBounds_toArray, List.set_cons_succ, List.set_cons_zero]; clear t2)
      | (have _t := t3; refine wpList_value rfl rfl (idv zid) (by kernel_rfl) ?_; rw [hd.out]; simp only [Act.put, List.setIfInBounds_toArray, List.set_cons_succ, List.set_cons_zero]; clear t3))
    go_ret
    exact ⟨rfl, grownBy_trans (r1 := none) (r2 := none) hg1 (World.grownBy.refl _ _) (.inl rfl) (.inl rfl), hs.grown hg1 nofun⟩
  · by_cases h2 : l ∈ seen
    · have hE : Hid (addE seen l = 7) := by unfold addE; rw [if_neg h1, if_pos h2]; rfl
      rw [hE.out, if_neg (by omega)]
      have hd : decide (l ∈ seen) = true := decide_eq_true h2
      clear h2
      go_enter Try.func32, Try.ntmps32
      go_wp2_with (first
        | (have _t := t1; refine wpList_alloc rfl rfl 33 (idc l).toArray (by kernel_rfl) ?_; intro w1 hb1 hg1 hs1; have hs' := hs.grown hg1 nofun; simp only [Act.put, List.setIfInBounds_toArray, List.set_cons_succ, List.set_cons_zero]; clear t1)
        | (have _t := t2; refine wpList_load_id rfl 33 _ rfl _ rfl l (by kernel_rfl) (hb1.id_at hl) ?_; simp only [Act.put, List.setIfInBounds_toArray, List.set_cons_succ, List.set_cons_zero]; clear t2)
        | (have _t := t3; refine wpList_value rfl rfl (idv zid) (by kernel_rfl) ?_; simp only [Act.put, List.setIfInBounds_toArray, List.set_cons_succ, List.set_cons_zero]; clear t3)
        | (have _t := t4; refine wpList_load_id rfl 33 _ rfl _ rfl l (by kernel_rfl) (hb1.id_at hl) ?_; simp only [Act.put, List.setIfInBounds_toArray, List.set_cons_succ, List.set_cons_zero]; clear t4)
        | (have _t := t5; refine wpList_lookup_id rfl 66 _ _ rfl Try.underlying66 (by kernel_rfl) hi0 hz0 b rfl l rfl hl hs' ?_; rw [hd]; simp only [Act.put, List.setIfInBounds_toArray, List.set_cons_succ, List.set_cons_zero]; clear t5))
      go_ret
      exact ⟨rfl, grownBy_trans (r1 := none) (r2 := none) hg1 (World.grownBy.refl _ _) (.inl rfl) (.inl rfl), hs'⟩
    · have hE : Hid (addE seen l = 0) := by unfold addE; rw [if_neg h1, if_neg h2]; rfl
      rw [hE.out, if_pos rfl]
      have hd : decide (l ∈ seen) = false := decide_eq_false h2
      have Hn := Lib.hid h2
      have t6 : True := trivial
      have t7 : True := trivial
      clear h2
      go_enter Try.func32, Try.ntmps32
      go_wp2_with (first
        | (have _t := t1; refine wpList_alloc rfl rfl 33 (idc l).toArray (by kernel_rfl) ?_; intro w1 hb1 hg1 hs1; have hs' := hs.grown hg1 nofun; simp only [Act.put, List.setIfInBounds_toArray, List.set_cons_succ, List.set_cons_zero]; clear t1)
        | (have _t := t2; refine wpList_load_id rfl 33 _ rfl _ rfl l (by kernel_rfl) (hb1.id_at hl) ?_; simp only [Act.put, List.setIfInBounds_toArray, List.set_cons_succ, List.set_cons_zero]; clear t2)
        | (have _t := t3; refine wpList_value rfl rfl (idv zid) (by kernel_rfl) ?_; simp only [Act.put, List.setIfInBounds_toArray, List.set_cons_succ, List.set_cons_zero]; clear t3)
        | (have _t := t4; refine wpList_load_id rfl 33 _ rfl _ rfl l (by kernel_rfl) (hb1.id_at hl) ?_; simp only [Act.put, List.setIfInBounds_toArray, List.set_cons_succ, List.set_cons_zero]; clear t4)
        | (have _t := t5; refine wpList_lookup_id rfl 66 _ _ rfl Try.underlying66 (by kernel_rfl) hi0 hz0 b rfl l rfl hl hs' ?_; rw [hd]; simp only [Act.put, List.setIfInBounds_toArray, List.set_cons_succ, List.set_cons_zero]; clear t5)
        | (have _t := t6; refine wpList_load_id rfl 33 _ rfl _ rfl l (by kernel_rfl) (hb1.id_at hl) ?_; simp only [Act.put, List.setIfInBounds_toArray, List.set_cons_succ, List.set_cons_zero]; clear t6)
        | (have _t := t7; refine wpList_update_id rfl 66 _ _ _ rfl Try.underlying66 (by kernel_rfl) b rfl l rfl hl rfl hs' Hn.out ?_; intro w2 hs2 hg2; simp only [Act.put, List.setIfInBounds_toArray, List.set_cons_succ, List.set_cons_zero]; clear t7))
      go_ret
      exact ⟨rfl, grownBy_trans (r1 := none) hg1 hg2 (.inl rfl) (.inr rfl), hs2⟩

theorem add_ok (b : Nat) (seen : List (List UInt8)) (l : List UInt8) (hl : l.length = 32) (w : World) (hs : IdSet w b seen) (h : addE seen l = 0) :
    Calls Try.prog 32 #[.map (some b), idv l] w fun e w' => e = .returned (.int .i64 0) ∧ w.grownBy w' (some b) ∧ IdSet w' b (seen ++ [l]) :=
  (add_calls b seen l hl w hs).mono fun e w' ⟨h1, h2, h3⟩ => by
    rw [h] at h1 h3
    rw [if_pos rfl] at h3
    exact ⟨h1, h2, h3⟩
theorem add_bad (b : Nat) (seen : List (List UInt8)) (l : List UInt8) (hl : l.length = 32) (w : World) (hs : IdSet w b seen) (E : Nat) (h : addE seen l = E) (hE : E ≠ 0) :
    Calls Try.prog 32 #[.map (some b), idv l] w fun e w' => e = .returned (.int .i64 E) ∧ w.grownBy w' (some b) ∧ IdSet w' b seen :=
  (add_calls b seen l hl w hs).mono fun e w' ⟨h1, h2, h3⟩ => by
    rw [h] at h1 h3
    rw [if_neg hE] at h3
    exact ⟨h1, h2, h3⟩
/-- the first error of a list, some identities having been seen -/
def chkFrom (seen : List (List UInt8)) : List (List UInt8) → Nat
  | [] => 0
  | l :: t => if addE seen l = 0 then chkFrom (seen ++ [l]) t else addE seen l
def chk (ls : List (List UInt8)) : Nat := if 20 < ls.length then 9 else chkFrom [] ls

set_option maxRecDepth 100000 in
set_option maxHeartbeats 400000 in
theorem check_calls (A : Option Addr) (ls : List (List UInt8)) (c n : Nat) (hln : ls.length = n) (w : World) (hl : Ids w A ls) :
    Calls Try.prog 20 #[.slice A n c] w fun e w' => e = .returned (.int .i64 (chk ls)) ∧ Below w.heap.size w w' := by
  by_cases h20 : 20 < n
  · have hE : Hid (chk ls = 9) := by unfold chk; rw [if_pos (by omega)]; rfl
    rw [hE.out]
    have h20' : (20 : Int) < n := by omega
    go_enter Try.func20, Try.ntmps20
    go_wp2
    go_ret
    exact ⟨rfl, Below.refl _ _⟩
  · have hE : Hid (chk ls = chkFrom [] ls) := by unfold chk; rw [if_neg (by omega)]; rfl
    rw [hE.out]
    have Hl := Lib.hid hln
    clear hln hE
    have h20' : ¬ (20 : Int) < n := by omega
    have t1 : True := trivial
    go_enter Try.func20, Try.ntmps20
    go_wp2_with (have _t := t1; refine wpList_newmap rfl rfl (by kernel_rfl) ?_; simp only [Act.put, List.setIfInBounds_toArray, List.set_cons_succ, List.set_cons_zero]; clear t1)
    generalize hcf : chkFrom [] ls = E
    have hCF := Lib.hid hcf
    clear hcf
    go_loopw [13] (fun i wr => ∃ k : Nat, k ≤ n ∧ i = .int .i64 k ∧ IdSet wr w.heap.size (ls.take k) ∧ chkFrom (ls.take k) (ls.drop k) = E ∧ Below w.heap.size w wr ∧ w.heap.size < wr.heap.size) (fun i _ => n - (intOf i).toNat)
    case atStart => exact ⟨0, Nat.zero_le _, rfl, by simpa using IdSet.new w, by simpa using hCF.out, (Below.refl _ _).alloc (Nat.le_refl _) _, by simp⟩
    case round =>
      obtain ⟨k, hk, rfl, hset, hcf, hb, hsz⟩ := hrel
      by_cases hlt : k < n
      · obtain ⟨ad, x, rfl, hx, hx32, hA⟩ := (hl.below hb).at_ (k := k) (by rw [Hl.out]; exact hlt)
        have Hx := Lib.hid hx
        have ecf : ls.drop k = x :: ls.drop (k + 1) := by
          have hkl : k < ls.length := by rw [Hl.out]; exact hlt
          rw [List.drop_eq_getElem_cons hkl]
          rw [List.getElem?_eq_getElem hkl] at hx
          injection hx with hx
          rw [hx]
        rw [ecf, chkFrom] at hcf
        have Hcf := Lib.hid hcf
        clear hx ecf hcf
        by_cases he : addE (ls.take k) x = 0
        · have Hc2 : Hid (chkFrom (ls.take (k + 1)) (ls.drop (k + 1)) = E) := Lib.hid (by rw [take_succ_at Hx.out]; have := Hcf.out; rwa [if_pos he] at this)
          have He := Lib.hid he
          clear Hcf he
          have t1 : True := trivial
          have t2 : True := trivial
          have t3 : True := trivial
          have t4 : True := trivial
          go_wp2_with (first
            | (have _t := t1; refine wpList_load_id rfl 33 _ rfl _ rfl x (by kernel_rfl) hA ?_; simp only [Act.put, List.setIfInBounds_toArray, List.set_cons_succ, List.set_cons_zero]; clear t1)
            | (have _t := t2; refine wpList_alloc rfl rfl 33 (idc zid).toArray (by kernel_rfl) ?_; intro w1 hb1 hg1 hs1; simp only [Act.put, List.setIfInBounds_toArray, List.set_cons_succ, List.set_cons_zero]; clear t2)
            | (have _t := t3; refine wpList_store_box rfl 33 _ _ rfl wr.heap.size (idc x) rfl rfl (t := 33) hb1 (by simp [idc_length, hx32, zid_len]) (by rw [idc_length, hx32]; kernel_rfl) (idc_one _) ?_; intro w2 hb2 hg2 hs2; have hset2 := (hset.grown hg1 nofun).grown hg2 (by intro e; injection e with e; omega); have Hs2 := Lib.hid hs2; clear hs2; simp only [Act.put, List.setIfInBounds_toArray, List.set_cons_succ, List.set_cons_zero]; clear t3)
            | (have _t := t4; refine wpList_load_id rfl 33 _ rfl _ rfl x (by kernel_rfl) (hb2.id_at hx32) ?_; simp only [Act.put, List.setIfInBounds_toArray, List.set_cons_succ, List.set_cons_zero]; clear t4)
            | (go_at_call 32; go_must (refine (add_ok _ (ls.take k) x hx32 _ hset2 He.out).mono ?_; rintro e w3 ⟨rfl, hg3, hset3⟩)))
          have hb3 : Below w.heap.size w w3 := ((hb.grown hg1 hb.size nofun).grown hg2 (by omega) (fun j hj => by injection hj with hj; have := hb.size; omega)).grown hg3 (by have := Hs2.out; have := hb.size; omega) (fun j hj => by injection hj with hj; omega)
          have hset4 : IdSet w3 w.heap.size (ls.take (k + 1)) := by rw [take_succ_at Hx.out]; exact hset3
          have hsz3 : w.heap.size < w3.heap.size := by have := hg3.size; have := Hs2.out; omega
          go_roundw
          case rel => exact ⟨k + 1, by omega, by go_num, hset4, Hc2.out, hb3, hsz3⟩
          case measure => simp [intOf]; omega
        · have HE : Hid (addE (ls.take k) x = E) := Lib.hid (by have := Hcf.out; rwa [if_neg he] at this)
          have hne : ((E : Int) != 0) = true := by rw [bne_iff_ne]; have := HE.out; omega
          have Hne : Hid (E ≠ 0) := Lib.hid (by have := HE.out; omega)
          clear Hcf he
          have t1 : True := trivial
          have t2 : True := trivial
          have t3 : True := trivial
          have t4 : True := trivial
          go_wp2_with (first
            | (have _t := t1; refine wpList_load_id rfl 33 _ rfl _ rfl x (by kernel_rfl) hA ?_; simp only [Act.put, List.setIfInBounds_toArray, List.set_cons_succ, List.set_cons_zero]; clear t1)
            | (have _t := t2; refine wpList_alloc rfl rfl 33 (idc zid).toArray (by kernel_rfl) ?_; intro w1 hb1 hg1 hs1; simp only [Act.put, List.setIfInBounds_toArray, List.set_cons_succ, List.set_cons_zero]; clear t2)
            | (have _t := t3; refine wpList_store_box rfl 33 _ _ rfl wr.heap.size (idc x) rfl rfl (t := 33) hb1 (by simp [idc_length, hx32, zid_len]) (by rw [idc_length, hx32]; kernel_rfl) (idc_one _) ?_; intro w2 hb2 hg2 hs2; have hset2 := (hset.grown hg1 nofun).grown hg2 (by intro e; injection e with e; omega); have Hs2 := Lib.hid hs2; clear hs2; simp only [Act.put, List.setIfInBounds_toArray, List.set_cons_succ, List.set_cons_zero]; clear t3)
            | (have _t := t4; refine wpList_load_id rfl 33 _ rfl _ rfl x (by kernel_rfl) (hb2.id_at hx32) ?_; simp only [Act.put, List.setIfInBounds_toArray, List.set_cons_succ, List.set_cons_zero]; clear t4)
            | (go_at_call 32; go_must (refine (add_bad _ (ls.take k) x hx32 _ hset2 E HE.out Hne.out).mono ?_; rintro e w3 ⟨rfl, hg3, hset3⟩)))
          have hb3 : Below w.heap.size w w3 := ((hb.grown hg1 hb.size nofun).grown hg2 (by omega) (fun j hj => by injection hj with hj; have := hb.size; omega)).grown hg3 (by have := Hs2.out; have := hb.size; omega) (fun j hj => by injection hj with hj; omega)
          go_ret
          exact ⟨by rw [hCF.out]; rfl, hb3⟩
      · have e : k = n := by omega
        subst e
        have : E = 0 := by
          rw [← hcf, List.drop_eq_nil_of_le (by rw [Hl.out]; omega)]; rfl
        subst this
        clear hcf
        go_wp2
        go_ret
        exact ⟨by rw [hCF.out]; rfl, hb⟩
end Go.Proofs.Ytafpndmoognjlaa
