/- msgid.Parse, walked. -/
import Derived.Test.YtafpndmoognjlaaMid
namespace Go.Proofs.Ytafpndmoognjlaa
open Go.ChangeShapes Go.WideShapes Go.ChangeAt Go.RowKit

theorem results_id_tmp2 {fn : Func} {p t u : Tmp} {ty : TypeId} (h : fn.results = #[.cell p ty, .tmp t, .tmp u]) (tmps : Array Value) (w : World) {P : Program} (ht : isId P ty = true) (a : Addr) (x : List UInt8) (hp : tmps.getD p undef = .pointer (some a)) (hx : IdAt w a x) :
    (results fn tmps).run P w = .ok (.tuple #[idv x, tmps.getD t undef, tmps.getD u undef]) w := by
  have hl := run_load_id (P := P) w hx ht
  simp only [Instr.loadAt, Instr.sureAddr, Sem.run_bind, Sem.run_pure, Result.andThen_ok] at hl
  have hp' : tmps[p]?.getD undef = .pointer (some a) := by simpa using hp
  simp [results, h, hp', asAddr, hl]
def zid0 : List UInt8 := List.replicate 32 0
theorem zid0_len : zid0.length = 32 := rfl
def MidPost (l : List UInt8) (e : Ending) : Prop :=
  (okM l = true ∧ e = .returned (.tuple #[idv (unh l), .int .i64 0, .int .i64 0])) ∨ (okM l = false ∧ ∃ p q : Int, e = .returned (.tuple #[idv zid0, .int .i64 p, .int .i64 q]) ∧ 0 < q)
theorem midPost_bad {l : List UInt8} {p q : Int} (h : okM l = false) (hq : 0 < q) : MidPost l (.returned (.tuple #[idv zid0, .int .i64 p, .int .i64 q])) := .inr ⟨h, p, q, rfl, hq⟩
theorem not_ok_at {l : List UInt8} {k : Nat} (hk : k < 71) (h : badAt l k = true) : okM l = false := by
  cases hq : okM l with
  | false => rfl
  | true => rw [okM_at hq k hk] at h; cases h
theorem not_ok_len {l : List UInt8} (h : l.length ≠ 71) : okM l = false := by
  cases hq : okM l with
  | false => rfl
  | true => exact absurd (okM_len hq) h
theorem formL_len : formL.length = 71 := midL_len _ rfl
theorem isId_api : isId Try.prog 33 = true := by kernel_rfl

set_option maxRecDepth 100000 in
set_option maxHeartbeats 3200000 in
theorem mparse_calls (l : List UInt8) (hbig : l.length ≤ 1000000000) (w : World) :
    Calls Try.prog 39 #[.string (str l)] w fun e w' => MidPost l e ∧ Below w.heap.size w w' := by
  obtain ⟨n, hn⟩ : ∃ n, n = min l.length 71 := ⟨_, rfl⟩
  have hn71 : n ≤ 71 := by omega
  have hnl : n ≤ l.length := by omega
  have hmin : min (l.length : Int) 71 = n := by omega
  have Hn := Lib.hid hn
  have t1 : True := trivial
  have t2 : True := trivial
  clear hn
  go_enter Try.func39, Try.ntmps39
  go_wp2_with (first
    | (have _t := t1; refine wpList_alloc rfl rfl 33 (idc zid0).toArray (by kernel_rfl) ?_; intro w1 hb1 hg1 hs1; simp only [Act.put, List.setIfInBounds_toArray, List.set_cons_succ, List.set_cons_zero]; clear t1)
    | (have _t := t2; refine wpList_value rfl rfl (idv zid0) (by kernel_rfl) ?_; simp only [Act.put, List.setIfInBounds_toArray, List.set_cons_succ, List.set_cons_zero]; clear t2))
  refine (mprint_calls zid0 zid0_len _).mono ?_
  rintro e w2 ⟨rfl, hb2⟩
  have hB2 := below_then (below_of_none hg1) (Nat.le_refl _) hb2
  have hbx2 := hb1.below hb2 hb1.lt
  rw [show midL zid0 = formL from rfl]
  have hfl := formL_len
  clear hb1 hg1 hs1 hb2
  go_wp2_with fail
  go_loopw [15] (fun i wr => ∃ k : Nat, k ≤ n ∧ i = .int .i64 k ∧ (∀ j, j < k → badAt l j = false) ∧ Blk wr w.heap.size 33 (idc zid0).toArray ∧ Below w.heap.size w wr) (fun i _ => n - (intOf i).toNat)
  case atStart => exact ⟨0, Nat.zero_le _, rfl, by omega, hbx2, hB2⟩
  case round =>
    obtain ⟨k, hk, rfl, hgood, hbx, hB⟩ := hrel
    have Hgood := Lib.hid hgood
    clear hbx2 hB2 hgood
    have hgl := hbx.lt
    by_cases hlt : k < n
    · obtain ⟨x, hx⟩ := get_le (l := l) (k := k) (by omega)
      obtain ⟨y, hy⟩ := get_le (l := formL) (k := k) (by omega)
      have hk71 : k < 71 := by omega
      have hbad : badAt l k = if isDigAt k then decide (dig x < 0) else !decide (x = y) := by unfold badAt; rw [byteAt_of hx, byteAt_of hy]
      have i0 : (0 : Int) ≤ k := by omega
      have i1 : (k : Int) < l.length := by omega
      have i2 : (k : Int) < 71 := by omega
      have bx := byteAt_of hx
      have by_ := byteAt_of hy
      clear hx hy
      by_cases hd : 1 ≤ k ∧ k < 65
      · rw [if_pos (by simp [isDigAt, hd])] at hbad
        have d1 : (1 : Int) ≤ k := by omega
        have d2 : (k : Int) < 65 := by omega
        by_cases hneg : dig x < 0
        · have hE : okM l = false := not_ok_at hk71 (by rw [hbad]; exact decide_eq_true hneg)
          have HE := Lib.hid hE
          have hneg' : decide (dig x < 0) = true := decide_eq_true hneg
          clear hE hbad hd
          go_wp2_with fail
          refine wp_region_quiet_lit (by kernel_rfl) (by kernel_rfl) ?_
          repeat (go_big_quiet_step ((go_at_call 46; exact Calls.quiet_of_same (idx_calls _ _))))
          refine wpQuiet_nil ?_
          intro _ hw'
          obtain ⟨nq, hw''⟩ := hw'
          subst hw''
          have hbx3 := hbx.drewN nq
          have t3 : True := trivial
          have t4 : True := trivial
          go_wp2_with (first
            | (have _t := t3; refine wpList_value rfl rfl (idv zid0) (by kernel_rfl) ?_; simp only [Act.put, List.setIfInBounds_toArray, List.set_cons_succ, List.set_cons_zero]; clear t3)
            | (have _t := t4; refine wpList_store_box rfl 33 _ _ rfl w.heap.size (idc zid0) rfl rfl hbx3 rfl (by rw [idc_length, zid0_len]; kernel_rfl) (idc_one _) ?_; intro w3 hb3 hg3 hs3; simp only [Act.put, List.setIfInBounds_toArray, List.set_cons_succ, List.set_cons_zero]; clear t4))
          refine bodyPost_ret (v := .tuple #[idv zid0, .int .i64 k, .int .i64 6]) (results_id_tmp2 (fn := Try.f39) (p := 2) (t := 3) (u := 4) rfl _ w3 isId_api ⟨w.heap.size, 0, none⟩ zid0 rfl (hb3.id_at zid0_len)) rfl ⟨midPost_bad HE.out (by omega), ?_⟩
          exact (hB.trans (below_drewN0 _ nq _)).grown hg3 (by have := hB.size; simpa using this) (fun j hj => by injection hj with hj; omega)
        · have Hgk : Hid (badAt l k = false) := Lib.hid (by rw [hbad]; exact decide_eq_false hneg)
          have hneg' : decide (dig x < 0) = false := decide_eq_false hneg
          clear hbad hd
          go_wp2_with fail
          refine wp_region_quiet_lit (by kernel_rfl) (by kernel_rfl) ?_
          repeat (go_big_quiet_step ((go_at_call 46; exact Calls.quiet_of_same (idx_calls _ _))))
          refine wpQuiet_nil ?_
          intro _ hw'
          obtain ⟨nq, hw''⟩ := hw'
          subst hw''
          go_wp2_with fail
          go_roundw
          case rel =>
            refine ⟨k + 1, by omega, by go_num, fun j hj => ?_, hbx.drewN nq, hB.trans (below_drewN0 _ nq _)⟩
            rcases Nat.lt_or_ge j k with h | h
            · exact Hgood.out j h
            · rw [show j = k from by omega]; exact Hgk.out
          case measure => simp [intOf]; omega
      · rw [if_neg (by simp [isDigAt]; omega)] at hbad
        have d0 : (decide ((1 : Int) ≤ k) && decide ((k : Int) < 65)) = false := by simp; omega
        have hcase : (k = 0 ∨ 65 ≤ k) := by omega
        have Hbad := Lib.hid hbad
        clear hbad hd
        have hxy : ((x.toNat : Int) != y.toNat) = !decide (x = y) := by
          rw [Bool.eq_iff_iff]; simp [← UInt8.toNat_inj]; omega
        by_cases hne : x = y
        · have Hgk : Hid (badAt l k = false) := Lib.hid (by rw [Hbad.out]; simp [hne])
          rw [decide_eq_true hne, Bool.not_true] at hxy
          clear hne
          rcases hcase with h0 | h65
          · have d1 : ¬ (1 : Int) ≤ k := by omega
            have H0 := Lib.hid h0
            clear h0
            go_wp2_with fail
            refine wp_region_quiet_lit (by kernel_rfl) (by kernel_rfl) ?_
            repeat (go_big_quiet_step (fail))
            refine wpQuiet_nil ?_
            intro _ hw'
            obtain ⟨nq, hw''⟩ := hw'
            subst hw''
            go_wp2_with fail
            go_roundw
            case rel =>
              refine ⟨k + 1, by omega, by go_num, fun j hj => ?_, hbx.drewN nq, hB.trans (below_drewN0 _ nq _)⟩
              rcases Nat.lt_or_ge j k with h | h
              · exact Hgood.out j h
              · rw [show j = k from by omega]; exact Hgk.out
            case measure => simp [intOf]; omega
          · have d1 : (1 : Int) ≤ k := by omega
            have d2 : ¬ (k : Int) < 65 := by omega
            go_wp2_with fail
            refine wp_region_quiet_lit (by kernel_rfl) (by kernel_rfl) ?_
            repeat (go_big_quiet_step (fail))
            refine wpQuiet_nil ?_
            intro _ hw'
            obtain ⟨nq, hw''⟩ := hw'
            subst hw''
            go_wp2_with fail
            go_roundw
            case rel =>
              refine ⟨k + 1, by omega, by go_num, fun j hj => ?_, hbx.drewN nq, hB.trans (below_drewN0 _ nq _)⟩
              rcases Nat.lt_or_ge j k with h | h
              · exact Hgood.out j h
              · rw [show j = k from by omega]; exact Hgk.out
            case measure => simp [intOf]; omega
        · have hE : okM l = false := not_ok_at hk71 (by rw [Hbad.out]; simp [hne])
          have HE := Lib.hid hE
          rw [decide_eq_false hne, Bool.not_false] at hxy
          clear hE hne
          rcases hcase with h0 | h65
          · have d1 : ¬ (1 : Int) ≤ k := by omega
            have H0 := Lib.hid h0
            clear h0
            go_wp2_with fail
            refine wp_region_quiet_lit (by kernel_rfl) (by kernel_rfl) ?_
            repeat (go_big_quiet_step (fail))
            refine wpQuiet_nil ?_
            intro _ hw'
            obtain ⟨nq, hw''⟩ := hw'
            subst hw''
            have hbx3 := hbx.drewN nq
            have t3 : True := trivial
            have t4 : True := trivial
            go_wp2_with (first
              | (have _t := t3; refine wpList_value rfl rfl (idv zid0) (by kernel_rfl) ?_; simp only [Act.put, List.setIfInBounds_toArray, List.set_cons_succ, List.set_cons_zero]; clear t3)
              | (have _t := t4; refine wpList_store_box rfl 33 _ _ rfl w.heap.size (idc zid0) rfl rfl hbx3 rfl (by rw [idc_length, zid0_len]; kernel_rfl) (idc_one _) ?_; intro w3 hb3 hg3 hs3; simp only [Act.put, List.setIfInBounds_toArray, List.set_cons_succ, List.set_cons_zero]; clear t4))
            refine bodyPost_ret (v := .tuple #[idv zid0, .int .i64 k, .int .i64 6]) (results_id_tmp2 (fn := Try.f39) (p := 2) (t := 3) (u := 4) rfl _ w3 isId_api ⟨w.heap.size, 0, none⟩ zid0 rfl (hb3.id_at zid0_len)) rfl ⟨midPost_bad HE.out (by omega), ?_⟩
            exact (hB.trans (below_drewN0 _ nq _)).grown hg3 (by have := hB.size; simpa using this) (fun j hj => by injection hj with hj; omega)
          · have d1 : (1 : Int) ≤ k := by omega
            have d2 : ¬ (k : Int) < 65 := by omega
            go_wp2_with fail
            refine wp_region_quiet_lit (by kernel_rfl) (by kernel_rfl) ?_
            repeat (go_big_quiet_step (fail))
            refine wpQuiet_nil ?_
            intro _ hw'
            obtain ⟨nq, hw''⟩ := hw'
            subst hw''
            have hbx3 := hbx.drewN nq
            have t3 : True := trivial
            have t4 : True := trivial
            go_wp2_with (first
              | (have _t := t3; refine wpList_value rfl rfl (idv zid0) (by kernel_rfl) ?_; simp only [Act.put, List.setIfInBounds_toArray, List.set_cons_succ, List.set_cons_zero]; clear t3)
              | (have _t := t4; refine wpList_store_box rfl 33 _ _ rfl w.heap.size (idc zid0) rfl rfl hbx3 rfl (by rw [idc_length, zid0_len]; kernel_rfl) (idc_one _) ?_; intro w3 hb3 hg3 hs3; simp only [Act.put, List.setIfInBounds_toArray, List.set_cons_succ, List.set_cons_zero]; clear t4))
            refine bodyPost_ret (v := .tuple #[idv zid0, .int .i64 k, .int .i64 6]) (results_id_tmp2 (fn := Try.f39) (p := 2) (t := 3) (u := 4) rfl _ w3 isId_api ⟨w.heap.size, 0, none⟩ zid0 rfl (hb3.id_at zid0_len)) rfl ⟨midPost_bad HE.out (by omega), ?_⟩
            exact (hB.trans (below_drewN0 _ nq _)).grown hg3 (by have := hB.size; simpa using this) (fun j hj => by injection hj with hj; omega)
    · have e : k = n := by omega
      subst e
      by_cases h1 : l.length < 71
      · have HE := Lib.hid (not_ok_len (l := l) (by omega))
        have h1' : (l.length : Int) < 71 := by omega
        clear h1
        have t3 : True := trivial
        have t4 : True := trivial
        go_wp2_with (first
          | (have _t := t3; refine wpList_value rfl rfl (idv zid0) (by kernel_rfl) ?_; simp only [Act.put, List.setIfInBounds_toArray, List.set_cons_succ, List.set_cons_zero]; clear t3)
          | (have _t := t4; refine wpList_store_box rfl 33 _ _ rfl w.heap.size (idc zid0) rfl rfl hbx rfl (by rw [idc_length, zid0_len]; kernel_rfl) (idc_one _) ?_; intro w3 hb3 hg3 hs3; simp only [Act.put, List.setIfInBounds_toArray, List.set_cons_succ, List.set_cons_zero]; clear t4))
        refine bodyPost_ret (v := .tuple #[idv zid0, .int .i64 l.length, .int .i64 4]) (results_id_tmp2 (fn := Try.f39) (p := 2) (t := 3) (u := 4) rfl _ w3 isId_api ⟨w.heap.size, 0, none⟩ zid0 rfl (hb3.id_at zid0_len)) rfl ⟨midPost_bad HE.out (by omega), ?_⟩
        exact hB.grown hg3 hB.size (fun j hj => by injection hj with hj; omega)
      · by_cases h2 : 71 < l.length
        · have HE := Lib.hid (not_ok_len (l := l) (by omega))
          have h1' : ¬ (l.length : Int) < 71 := by omega
          have h2' : (71 : Int) < l.length := by omega
          clear h1 h2
          have t3 : True := trivial
          have t4 : True := trivial
          go_wp2_with (first
            | (have _t := t3; refine wpList_value rfl rfl (idv zid0) (by kernel_rfl) ?_; simp only [Act.put, List.setIfInBounds_toArray, List.set_cons_succ, List.set_cons_zero]; clear t3)
            | (have _t := t4; refine wpList_store_box rfl 33 _ _ rfl w.heap.size (idc zid0) rfl rfl hbx rfl (by rw [idc_length, zid0_len]; kernel_rfl) (idc_one _) ?_; intro w3 hb3 hg3 hs3; simp only [Act.put, List.setIfInBounds_toArray, List.set_cons_succ, List.set_cons_zero]; clear t4))
          refine bodyPost_ret (v := .tuple #[idv zid0, .int .i64 71, .int .i64 5]) (results_id_tmp2 (fn := Try.f39) (p := 2) (t := 3) (u := 4) rfl _ w3 isId_api ⟨w.heap.size, 0, none⟩ zid0 rfl (hb3.id_at zid0_len)) rfl ⟨midPost_bad HE.out (by omega), ?_⟩
          exact hB.grown hg3 hB.size (fun j hj => by injection hj with hj; omega)
        · have h71 : l.length = 71 := by omega
          have hok : okM l = true := okM_mk h71 fun i hi => Hgood.out i (by have := Hn.out; omega)
          have HO := Lib.hid hok
          have hl64 : ((l.drop 1).take 64).length = 64 := by simp [h71]
          have hun := unhex_calls ((l.drop 1).take 64) hl64 (fun i hi => by
            rw [byteAt, List.getElem?_take_of_lt hi, List.getElem?_drop]
            exact okM_dig hok (1 + i) (by omega) (by omega))
          have e1 : (List.range 32).map (unhP ((l.drop 1).take 64)) = unh l := by
            unfold unh
            refine List.map_congr_left fun j hj => ?_
            have hj := List.mem_range.1 hj
            unfold unhP unhB byteAt
            rw [List.getElem?_take_of_lt (by omega), List.getElem?_take_of_lt (by omega), List.getElem?_drop, List.getElem?_drop, show 1 + (2 * j + 1) = 2 + 2 * j from by omega]
          rw [e1, List.drop_one] at hun
          have Hun := Lib.hid hun
          have hlu := unh_len l
          clear hok hl64 hun e1 h1 h2 Hn hmin hnl
          go_wp2_with fail
          refine (Hun.out wr).mono ?_
          rintro e w3 ⟨v, rfl, hown, hb3⟩
          have hbx3 := hbx.below hb3 hbx.lt
          have hB3 := below_then hB (Nat.le_refl _) hb3
          rcases hown.2 with ⟨-, h⟩ | ⟨g, cap, cur, rfl, hbg, hcur, hcap, hmax, hsz, hpre⟩
          · exact absurd h (by omega)
          · have hsrc := hown.cells (g := g) rfl
            have Hcur := Lib.hid hcur
            have Hpre := Lib.hid hpre
            have t3 : True := trivial
            have t4 : True := trivial
            have t5 : True := trivial
            clear hcur hpre hown hbx hb3
            go_wp2_with (first
              | (have _t := t3; refine wpList_copy_splice rfl _ _ 81 81 rfl 5 Try.underlying81 (by kernel_rfl) _ _ 32 32 32 cap rfl rfl w.heap.size 0 (idc zid0) 33 hbx3 (idc (unh l)) (by rw [idc_length, hlu]; rfl) (fun _ => ⟨rfl, _, rfl, hsrc⟩) (by rw [idc_length, hlu]; decide) (idc_one _) w.heap.size w hB3 (Nat.le_refl _) ?_; intro w4 hb4 hB4; have hid4 : Blk w4 w.heap.size 33 (idc (unh l)).toArray := (by have h5 := hb4.out; rw [show splice (idc zid0) 0 (idc (unh l)) = idc (unh l) from (by unfold splice; rw [idc_length, hlu, List.drop_of_length_le (by rw [idc_length, zid0_len]; omega)]; simp)] at h5; exact h5); clear t3)
              | (have _t := t4; refine wpList_load_id rfl 33 _ rfl _ rfl (unh l) isId_api (hid4.id_at hlu) ?_; simp only [Act.put, List.setIfInBounds_toArray, List.set_cons_succ, List.set_cons_zero]; clear t4)
              | (have _t := t5; refine wpList_store_box rfl 33 _ _ rfl w.heap.size (idc (unh l)) rfl rfl hid4 rfl (by rw [idc_length, hlu]; kernel_rfl) (idc_one _) ?_; intro w5 hb5 hg5 hs5; simp only [Act.put, List.setIfInBounds_toArray, List.set_cons_succ, List.set_cons_zero]; clear t5))
            refine bodyPost_ret (v := .tuple #[idv (unh l), .int .i64 0, .int .i64 0]) (results_id_tmp2 (fn := Try.f39) (p := 2) (t := 3) (u := 4) rfl _ w5 isId_api ⟨w.heap.size, 0, none⟩ (unh l) rfl (hb5.id_at hlu)) rfl ⟨.inl ⟨HO.out, rfl⟩, ?_⟩
            exact hB4.grown hg5 hB4.size (fun j hj => by injection hj with hj; omega)
end Go.Proofs.Ytafpndmoognjlaa
