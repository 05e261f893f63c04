/- Identity of the reference, walked. -/
import Derived.Test.YtafpndmoognjlaaId1
namespace Go.Proofs.Ytafpndmoognjlaa
open Go.ChangeShapes Go.WideShapes Go.ChangeAt Go.RowKit
theorem results_id1 {fn : Func} {p t : Tmp} {ty : TypeId} (h : fn.results = #[.cell p ty, .tmp t]) (tmps : Array Value) (w : World) {P : Program} (ht : isId P ty = true) (a : Addr) (x : List UInt8) (hp : tmps.getD p undef = .pointer (some a)) (hx : IdAt w a x) :
    (results fn tmps).run P w = .ok (.tuple #[idv x, tmps.getD t undef]) w := by
  have hl := run_load_id (P := P) w hx ht
  simp only [Instr.loadAt, Instr.sureAddr, Sem.run_bind, Sem.run_pure, Result.andThen_ok] at hl
  have hp' : tmps[p]?.getD undef = .pointer (some a) := by simpa using hp
  simp [results, h, hp', asAddr, hl]
theorem isId_ref : isId Try.prog 38 = true := by kernel_rfl
def idnV (l : List UInt8) : List UInt8 := if okM l = true then unh l else zid0
theorem idnV_len (l : List UInt8) : (idnV l).length = 32 := by unfold idnV; split; exact unh_len l; rfl
theorem not_ok {l : List UInt8} (h : okM l = true → False) : okM l = false := by cases hq : okM l; rfl; exact (h hq).elim
set_option maxRecDepth 100000 in
set_option maxHeartbeats 3200000 in
theorem identity_bad (l : List UInt8) (hbig : l.length ≤ 1000000000) (hE : okM l = false) (hc : l.length ≠ 71 ∨ (l.length = 71 ∧ ∃ x, l[0]? = some x ∧ (x ≠ 60 ∨ (x = 60 ∧ l.drop 65 ≠ [64, 104, 97, 115, 104, 62])))) (w : World) :
    Calls Try.prog 41 #[.string (str l)] w fun e w' => e = .returned (.tuple #[idv zid0, .bool false]) ∧ Below w.heap.size w w' := by
  have HE := Lib.hid hE
  clear hE
  have t1 : True := trivial
  have t2 : True := trivial
  have t3 : True := trivial
  have t4 : True := trivial
  rcases hc with h1 | ⟨h1, x, hx, h2 | ⟨h2, h3⟩⟩
  · have h1' : ((l.length : Int) != 71) = true := by rw [bne_iff_ne]; omega
    clear h1
    go_enter Try.func41, Try.ntmps41
    go_wp2_with (first
      | (have _t := t1; refine wpList_alloc rfl rfl 38 (idc zid0).toArray (by kernel_rfl) ?_; intro w1 hb1 hg1 hs1; simp only [Act.put, List.setIfInBounds_toArray, List.set_cons_succ, List.set_cons_zero]; clear t1)
      | (have _t := t2; refine wpList_alloc rfl rfl 38 (idc zid0).toArray (by kernel_rfl) ?_; intro w2 hb2 hg2 hs2; simp only [Act.put, List.setIfInBounds_toArray, List.set_cons_succ, List.set_cons_zero]; clear t2)
      | (have _t := t3; refine wpList_load_id rfl 38 _ rfl _ rfl zid0 isId_ref (hb2.id_at zid0_len) ?_; simp only [Act.put, List.setIfInBounds_toArray, List.set_cons_succ, List.set_cons_zero]; clear t3)
      | (have _t := t4; refine wpList_store_box rfl 38 _ _ rfl w.heap.size (idc zid0) rfl rfl (hb1.grown hg2 nofun) rfl (by rw [idc_length, zid0_len]; kernel_rfl) (idc_one _) ?_; intro w3 hb3 hg3 hs3; simp only [Act.put, List.setIfInBounds_toArray, List.set_cons_succ, List.set_cons_zero]; clear t4))
    refine bodyPost_ret (v := .tuple #[idv zid0, .bool false]) (results_id1 (fn := Try.f41) (p := 2) (t := 3) rfl _ w3 isId_ref ⟨w.heap.size, 0, none⟩ zid0 rfl (hb3.id_at zid0_len)) rfl ⟨rfl, ?_⟩
    exact ((below_of_none hg1).grown hg2 hg1.size nofun).grown hg3 (by have := hg1.size; have := hg2.size; omega) (fun j hj => by injection hj with hj; omega)
  · have hx' : (((byteAt l 0).toNat : Int) != 60) = true := by
      rw [byteAt_of hx]
      rw [bne_iff_ne]; intro h; exact h2 (UInt8.toNat_inj.1 (by rw [show (60 : UInt8).toNat = 60 from rfl]; omega))
    clear h2 hx
    go_enter Try.func41, Try.ntmps41
    go_wp2_with (first
      | (have _t := t1; refine wpList_alloc rfl rfl 38 (idc zid0).toArray (by kernel_rfl) ?_; intro w1 hb1 hg1 hs1; simp only [Act.put, List.setIfInBounds_toArray, List.set_cons_succ, List.set_cons_zero]; clear t1)
      | (have _t := t2; refine wpList_alloc rfl rfl 38 (idc zid0).toArray (by kernel_rfl) ?_; intro w2 hb2 hg2 hs2; simp only [Act.put, List.setIfInBounds_toArray, List.set_cons_succ, List.set_cons_zero]; clear t2)
      | (have _t := t3; refine wpList_load_id rfl 38 _ rfl _ rfl zid0 isId_ref (hb2.id_at zid0_len) ?_; simp only [Act.put, List.setIfInBounds_toArray, List.set_cons_succ, List.set_cons_zero]; clear t3)
      | (have _t := t4; refine wpList_store_box rfl 38 _ _ rfl w.heap.size (idc zid0) rfl rfl (hb1.grown hg2 nofun) rfl (by rw [idc_length, zid0_len]; kernel_rfl) (idc_one _) ?_; intro w3 hb3 hg3 hs3; simp only [Act.put, List.setIfInBounds_toArray, List.set_cons_succ, List.set_cons_zero]; clear t4))
    refine bodyPost_ret (v := .tuple #[idv zid0, .bool false]) (results_id1 (fn := Try.f41) (p := 2) (t := 3) rfl _ w3 isId_ref ⟨w.heap.size, 0, none⟩ zid0 rfl (hb3.id_at zid0_len)) rfl ⟨rfl, ?_⟩
    exact ((below_of_none hg1).grown hg2 hg1.size nofun).grown hg3 (by have := hg1.size; have := hg2.size; omega) (fun j hj => by injection hj with hj; omega)
  · have h3' : ((l.drop 65).take 6 == [64, 104, 97, 115, 104, 62]) = false := by
      rw [List.take_of_length_le (by rw [List.length_drop]; omega)]; simpa using h3
    have hx' : (((byteAt l 0).toNat : Int) != 60) = false := by
      rw [byteAt_of hx, h2]; rfl
    clear h2 hx
    clear h3
    go_enter Try.func41, Try.ntmps41
    go_wp2_with (first
      | (have _t := t1; refine wpList_alloc rfl rfl 38 (idc zid0).toArray (by kernel_rfl) ?_; intro w1 hb1 hg1 hs1; simp only [Act.put, List.setIfInBounds_toArray, List.set_cons_succ, List.set_cons_zero]; clear t1)
      | (have _t := t2; refine wpList_alloc rfl rfl 38 (idc zid0).toArray (by kernel_rfl) ?_; intro w2 hb2 hg2 hs2; simp only [Act.put, List.setIfInBounds_toArray, List.set_cons_succ, List.set_cons_zero]; clear t2)
      | (have _t := t3; refine wpList_load_id rfl 38 _ rfl _ rfl zid0 isId_ref (hb2.id_at zid0_len) ?_; simp only [Act.put, List.setIfInBounds_toArray, List.set_cons_succ, List.set_cons_zero]; clear t3)
      | (have _t := t4; refine wpList_store_box rfl 38 _ _ rfl w.heap.size (idc zid0) rfl rfl (hb1.grown hg2 nofun) rfl (by rw [idc_length, zid0_len]; kernel_rfl) (idc_one _) ?_; intro w3 hb3 hg3 hs3; simp only [Act.put, List.setIfInBounds_toArray, List.set_cons_succ, List.set_cons_zero]; clear t4))
    refine bodyPost_ret (v := .tuple #[idv zid0, .bool false]) (results_id1 (fn := Try.f41) (p := 2) (t := 3) rfl _ w3 isId_ref ⟨w.heap.size, 0, none⟩ zid0 rfl (hb3.id_at zid0_len)) rfl ⟨rfl, ?_⟩
    exact ((below_of_none hg1).grown hg2 hg1.size nofun).grown hg3 (by have := hg1.size; have := hg2.size; omega) (fun j hj => by injection hj with hj; omega)

set_option maxRecDepth 100000 in
set_option maxHeartbeats 3200000 in
theorem identity_main (l : List UInt8) (h1 : l.length = 71) (h2 : l[0]? = some 60) (h3 : l.drop 65 = [64, 104, 97, 115, 104, 62]) (w : World) :
    Calls Try.prog 41 #[.string (str l)] w fun e w' => e = .returned (.tuple #[idv (idnV l), .bool (okM l)]) ∧ Below w.heap.size w w' := by
  have h3' : ((l.drop 65).take 6 == [64, 104, 97, 115, 104, 62]) = true := by
    rw [List.take_of_length_le (by rw [List.length_drop]; omega), h3]; rfl
  have hx' : (((byteAt l 0).toNat : Int) != 60) = false := by
    rw [byteAt_of h2]; rfl
  have H2 := Lib.hid h2
  have H3 := Lib.hid h3
  clear h2 h3
  have t1 : True := trivial
  have t2 : True := trivial
  go_enter Try.func41, Try.ntmps41
  go_wp2_with (first
    | (have _t := t1; refine wpList_alloc rfl rfl 38 (idc zid0).toArray (by kernel_rfl) ?_; intro w1 hb1 hg1 hs1; simp only [Act.put, List.setIfInBounds_toArray, List.set_cons_succ, List.set_cons_zero]; clear t1)
    | (have _t := t2; refine wpList_alloc rfl rfl 38 (idc zid0).toArray (by kernel_rfl) ?_; intro w2 hb2 hg2 hs2; simp only [Act.put, List.setIfInBounds_toArray, List.set_cons_succ, List.set_cons_zero]; clear t2))
  have hB0 : Below w.heap.size w w2 := (below_of_none hg1).grown hg2 hg1.size nofun
  have hr0 := hb1.grown hg2 nofun
  have hs0 : w.heap.size < w1.heap.size := hs1
  clear hb1 hg1 hg2 hs1 hs2
  go_loopw [5] (fun i wr => ∃ k : Nat, k ≤ 32 ∧ i = .int .i64 k ∧ (∀ i, 1 ≤ i → i < 1 + 2 * k → 0 ≤ dig (byteAt l (i))) ∧ Blk wr w.heap.size 38 (idc zid0).toArray ∧ Blk wr w1.heap.size 38 (idc (bx l k)).toArray ∧ Below w.heap.size w wr) (fun i _ => 32 - (intOf i).toNat)
  case atStart => exact ⟨0, by omega, rfl, by omega, hr0, by rw [bx_zero]; exact hb2, hB0⟩
  case round =>
    obtain ⟨k, hk, rfl, hgood, hr, hb, hB⟩ := hrel
    have Hgood := Lib.hid hgood
    have hbl := hb.lt
    clear hr0 hb2 hB0 hgood
    by_cases hlt : k < 32
    · obtain ⟨x, hx⟩ := get_le (l := l) (k := 1 + 2 * k) (by omega)
      obtain ⟨y, hy⟩ := get_le (l := l) (k := 2 + 2 * k) (by omega)
      have hdx := dig_range x
      have hdy := dig_range y
      have i0 : (0 : Int) ≤ 1 + 2 * k := by omega
      have i1 : (1 : Int) + 2 * k < l.length := by omega
      have i2 : (0 : Int) ≤ 2 + 2 * k := by omega
      have i3 : (2 : Int) + 2 * k < l.length := by omega
      have s0 : IntKind.i64.wrap (2 * (k : Int)) = 2 * (k : Int) := IntWalk.i64_in _ (by omega)
      have s1 : IntKind.i64.wrap (1 + 2 * (k : Int)) = 1 + 2 * (k : Int) := IntWalk.i64_in _ (by omega)
      have s2 : IntKind.i64.wrap (2 + 2 * (k : Int)) = 2 + 2 * (k : Int) := IntWalk.i64_in _ (by omega)
      have n1 : (1 + 2 * (k : Int)).toNat = 1 + 2 * k := by omega
      have n2 : (2 + 2 * (k : Int)).toNat = 2 + 2 * k := by omega
      have ex := byteAt_of hx
      have ey := byteAt_of hy
      clear hx hy
      go_wp2_with fail
      refine wp_region_quiet_lit (by kernel_rfl) (by kernel_rfl) ?_
      repeat (go_big_quiet_step ((go_at_call 48; exact Calls.quiet_of_same (value_calls _ _))))
      refine wpQuiet_nil ?_
      intro _ hw'
      obtain ⟨nq, hw''⟩ := hw'
      subst hw''
      have Ex := Lib.hid ex
      have Ey := Lib.hid ey
      clear ex ey
      by_cases hneg : dig x < 0 ∨ dig y < 0
      · have hE : okM l = false := not_ok fun hok => by
          rcases hneg with h | h
          · have := okM_dig hok (1 + 2 * k) (by omega) (by omega); rw [Ex.out] at this; omega
          · have := okM_dig hok (2 + 2 * k) (by omega) (by omega); rw [Ey.out] at this; omega
        have HE := Lib.hid hE
        have hr1 := hr.drewN nq
        have t3 : True := trivial
        have t4 : True := trivial
        have hg : (decide (dig x < 0) || decide (dig y < 0)) = true := by simpa using hneg
        have hcs : dig x < 0 ∨ (0 ≤ dig x ∧ dig y < 0) := by omega
        clear hE hneg hg
        rcases hcs with h | ⟨h, h'⟩
        · go_wp2_with (first
            | (have _t := t3; refine wpList_value rfl rfl (idv zid0) (by kernel_rfl) ?_; simp only [Act.put, List.setIfInBounds_toArray, List.set_cons_succ, List.set_cons_zero]; clear t3)
            | (have _t := t4; refine wpList_store_box rfl 38 _ _ rfl w.heap.size (idc zid0) rfl rfl hr1 rfl (by rw [idc_length, zid0_len]; kernel_rfl) (idc_one _) ?_; intro w3 hb3 hg3 hs3; simp only [Act.put, List.setIfInBounds_toArray, List.set_cons_succ, List.set_cons_zero]; clear t4))
          have HV : idnV l = zid0 := by unfold idnV; rw [HE.out]; rfl
          rw [HV, HE.out]
          refine bodyPost_ret (v := .tuple #[idv zid0, .bool false]) (results_id1 (fn := Try.f41) (p := 2) (t := 3) rfl _ w3 isId_ref ⟨w.heap.size, 0, none⟩ zid0 rfl (hb3.id_at zid0_len)) rfl ⟨rfl, ?_⟩
          exact (hB.trans (below_drewN0 _ nq _)).grown hg3 (by have := hB.size; simpa using this) (fun j hj => by injection hj with hj; omega)
        · go_wp2_with (first
            | (have _t := t3; refine wpList_value rfl rfl (idv zid0) (by kernel_rfl) ?_; simp only [Act.put, List.setIfInBounds_toArray, List.set_cons_succ, List.set_cons_zero]; clear t3)
            | (have _t := t4; refine wpList_store_box rfl 38 _ _ rfl w.heap.size (idc zid0) rfl rfl hr1 rfl (by rw [idc_length, zid0_len]; kernel_rfl) (idc_one _) ?_; intro w3 hb3 hg3 hs3; simp only [Act.put, List.setIfInBounds_toArray, List.set_cons_succ, List.set_cons_zero]; clear t4))
          have HV : idnV l = zid0 := by unfold idnV; rw [HE.out]; rfl
          rw [HV, HE.out]
          refine bodyPost_ret (v := .tuple #[idv zid0, .bool false]) (results_id1 (fn := Try.f41) (p := 2) (t := 3) rfl _ w3 isId_ref ⟨w.heap.size, 0, none⟩ zid0 rfl (hb3.id_at zid0_len)) rfl ⟨rfl, ?_⟩
          exact (hB.trans (below_drewN0 _ nq _)).grown hg3 (by have := hB.size; simpa using this) (fun j hj => by injection hj with hj; omega)
      · have hx0 : 0 ≤ dig x := by omega
        have hy0 : 0 ≤ dig y := by omega
        obtain ⟨a, ha⟩ : ∃ a : Nat, dig x = a := ⟨(dig x).toNat, by omega⟩
        obtain ⟨b, hb'⟩ : ∃ b : Nat, dig y = b := ⟨(dig y).toNat, by omega⟩
        have hu : ((unhB l k).toNat : Int) = 16 * a + b := by
          unfold unhB; rw [Ex.out, Ey.out, ha, hb', Int.toNat_natCast, Int.toNat_natCast, UInt8.toNat_ofNat']; omega
        have Hset := Lib.hid (bx_set l k hlt)
        have ha16 : a < 16 := by omega
        have hb16 : b < 16 := by omega
        have hr1 := hr.drewN nq
        have hb1 := hb.drewN nq
        have hb2 := hb1.set_ k (.int .u8 (unhB l k).toNat)
        rw [Hset.out] at hb2
        have HA := Lib.hid ha
        have HB := Lib.hid hb'
        simp only [ha, hb']
        have hf := hb1.frozen k
        have hcc : (wr.drewN nq).cell? ⟨w1.heap.size, k, none⟩ = some (.int .u8 ((bx l k)[k]'(by rw [bx_len]; omega)).toNat) := by
          rw [hb1.cell]; simp [idc, bx_len, hlt]
        have hr2 := hr1.far (p := ⟨w1.heap.size, k, none⟩) (by simp; omega) (.int .u8 (unhB l k).toNat)
        have Hb2 := Lib.hid hb2
        have Hr2 := Lib.hid hr2
        have i4 : (0 : Int) ≤ k := by omega
        have i5 : (k : Int) < 32 := by omega
        have Hu := Lib.hid hu
        clear ha hb' hb2 hr2 hx0 hy0 hneg hdx hdy hu hr hb hr1
        go_wp2_with fail
        rw [← Hu.out]
        go_roundw
        case rel =>
          refine ⟨k + 1, by omega, by go_num, fun i h1 h2 => ?_, Hr2.out, Hb2.out, (hB.trans (below_drewN0 _ nq _)).setCell (p := ⟨w1.heap.size, k, none⟩) (by simp; omega) _⟩
          rcases Nat.lt_or_ge i (1 + 2 * k) with h | h
          · exact Hgood.out i h1 h
          · rcases (show i = 1 + 2 * k ∨ i = 2 + 2 * k from by omega) with h | h
            · rw [h, Ex.out, HA.out]; omega
            · rw [h, Ey.out, HB.out]; omega
        case measure => simp [intOf]; omega
    · have e : k = 32 := by omega
      subst e
      have hok : okM l = true := okM_of h1 H2.out H3.out (fun i h h' => Hgood.out i h (by omega))
      have HV : Hid (idnV l = unh l) := Lib.hid (by unfold idnV; rw [if_pos hok])
      have HO := Lib.hid hok
      have hlu := unh_len l
      rw [bx_all] at hb
      have t3 : True := trivial
      have t4 : True := trivial
      clear hok hx' h3'
      go_wp2_with (first
        | (have _t := t3; refine wpList_load_id rfl 38 _ rfl _ rfl (unh l) isId_ref (hb.id_at hlu) ?_; simp only [Act.put, List.setIfInBounds_toArray, List.set_cons_succ, List.set_cons_zero]; clear t3)
        | (have _t := t4; refine wpList_store_box rfl 38 _ _ rfl w.heap.size (idc (unh l)) rfl rfl hr (by simp [idc_length, hlu, zid0_len]) (by rw [idc_length, hlu]; kernel_rfl) (idc_one _) ?_; intro w3 hb3 hg3 hs3; simp only [Act.put, List.setIfInBounds_toArray, List.set_cons_succ, List.set_cons_zero]; clear t4))
      rw [HV.out, HO.out]
      refine bodyPost_ret (v := .tuple #[idv (unh l), .bool true]) (results_id1 (fn := Try.f41) (p := 2) (t := 3) rfl _ w3 isId_ref ⟨w.heap.size, 0, none⟩ (unh l) rfl (hb3.id_at hlu)) rfl ⟨rfl, ?_⟩
      exact hB.grown hg3 hB.size (fun j hj => by injection hj with hj; omega)

theorem identity_calls (l : List UInt8) (hbig : l.length ≤ 1000000000) (w : World) :
    Calls Try.prog 41 #[.string (str l)] w fun e w' => e = .returned (.tuple #[idv (idnV l), .bool (okM l)]) ∧ Below w.heap.size w w' := by
  by_cases h : l.length = 71 ∧ l[0]? = some 60 ∧ l.drop 65 = [64, 104, 97, 115, 104, 62]
  · exact identity_main l h.1 h.2.1 h.2.2 w
  · have hE : okM l = false := not_ok fun hok => h ⟨okM_len hok, okM_head hok, okM_tail hok⟩
    have hV : idnV l = zid0 := by unfold idnV; rw [hE]; rfl
    rw [hV, hE]
    refine identity_bad l hbig hE ?_ w
    by_cases h1 : l.length = 71
    · obtain ⟨x, hx⟩ := get_le (l := l) (k := 0) (by omega)
      refine .inr ⟨h1, x, hx, ?_⟩
      by_cases h2 : x = 60
      · exact .inr ⟨h2, fun h3 => h ⟨h1, by rw [hx, h2], h3⟩⟩
      · exact .inl h2
    · exact .inl h1
theorem identity_ok (l : List UInt8) (hbig : l.length ≤ 1000000000) (h : okM l = true) (w : World) :
    Calls Try.prog 41 #[.string (str l)] w fun e w' => e = .returned (.tuple #[idv (unh l), .bool true]) ∧ Below w.heap.size w w' := by
  have := identity_calls l hbig w
  rwa [h, show idnV l = unh l from by unfold idnV; rw [if_pos h]] at this
theorem identity_no (l : List UInt8) (hbig : l.length ≤ 1000000000) (h : okM l = false) (w : World) :
    Calls Try.prog 41 #[.string (str l)] w fun e w' => e = .returned (.tuple #[idv zid0, .bool false]) ∧ Below w.heap.size w w' := by
  have := identity_calls l hbig w
  rwa [h, show idnV l = zid0 from by unfold idnV; rw [h]; rfl] at this
end Go.Proofs.Ytafpndmoognjlaa
