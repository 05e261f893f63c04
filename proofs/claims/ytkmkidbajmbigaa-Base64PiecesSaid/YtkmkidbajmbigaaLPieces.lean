/- Base64Pieces: for every list of pieces the law's call returns true and leaves its arguments as they were. No conditions. -/
import Derived.Test.YtkmkidbajmbigaaP3
import Derived.Test.YtkmkidbajmbigaaOpenPieces
import Derived.ShutString
namespace Go.Proofs.Ytkmkidbajmbigaa
open Go.ChangeShapes Go.WideShapes Go.ChangeAt Go.RowKit Go.Deep
namespace lawPieces
theorem below_then {B : Nat} {a b c : World} (h1 : Below B a b) (hB : B ≤ a.heap.size) (h2 : Below b.heap.size b c) : Below B a c := h1.trans (h2.mono (Nat.le_trans hB h1.size))
theorem below_of_none {w w' : World} (h : w.grownBy w' none) : Below w.heap.size w w' := ⟨h.os, h.tape, h.output, h.size, fun k hk => h.block k hk nofun⟩
theorem own_far {w w' : World} {base : Nat} {e : TypeId} {size n : Nat} {v : Value} {xs : List Value} (h : w.ownsRow base e size v n xs) {b : Nat} (hg : w.grownBy w' (some b)) (hb : b < base) : w'.ownsRow base e size v n xs :=
  h.kept hg (by
    cases hq : v.ownBlock with
    | none => exact .inl rfl
    | some k => exact .inr (fun e => by injection e with e; have := (h.lt k hq).1; omega))
set_option maxRecDepth 100000 in
set_option maxHeartbeats 3200000 in
theorem law_all (A : Option Addr) (ps : List (List UInt8)) (c n : Nat) (hps : ps.length = n) (w : World) (hI : PcsAt w A ps) :
    Calls Try.prog 7 #[.slice A n c] w fun e w' => e = .returned (.bool true) ∧ Below w.heap.size w w' := by
  have Hps := Lib.hid hps
  clear hps
  by_cases h : 30 < n
  · have h30 : (30 : Int) < n := by omega
    go_enter Try.func7, Try.ntmps7
    go_wp2_with fail
    refine (known_calls _).mono ?_
    rintro e w2 ⟨rfl, hb2⟩
    go_wp2_with fail
    refine (known_calls _).mono ?_
    rintro e w3 ⟨rfl, hb3⟩
    go_wp2
    go_ret
    exact ⟨rfl, hb2.trans (hb3.mono hb2.size)⟩
  · have h30 : ¬ (30 : Int) < n := by omega
    obtain ⟨i0, hi0, hz0, hz1, hz2⟩ := byteInfo
    go_enter Try.func7, Try.ntmps7
    go_wp2_with fail
    refine (known_calls _).mono ?_
    rintro e w2 ⟨rfl, hb2⟩
    go_wp2_with fail
    refine (new_calls _).mono ?_
    rintro e w3 ⟨rfl, hE3, hg3, hs3⟩
    have hb3 := below_of_none hg3
    have hB3 := below_then hb2 (Nat.le_refl _) hb3
    obtain ⟨g, hg⟩ : ∃ g, g = w2.heap.size := ⟨_, rfl⟩
    rw [← hg] at hE3 hs3
    have hwg : w.heap.size ≤ g := by rw [hg]; exact hb2.size
    have Hg := Lib.hid hg
    simp only [← hg]
    clear hg3 hb2 hb3 hg
    go_wp2_with fail
    go_loopw [4, 5, 6] (fun v o iv wr => ∃ k : Nat, k ≤ n ∧ iv = .int .i64 k ∧ o = .string (str (gotS (ps.take k).flatten)) ∧ (ps.take k).flatten.length ≤ 200 * k ∧ EncO wr g (ps.take k).flatten false ∧ wr.ownsRow (g + 1) 5 1 v (ps.take k).flatten.length (idc (ps.take k).flatten) ∧ Below w.heap.size w wr ∧ g < wr.heap.size) (fun _ _ iv _ => n - (intOf iv).toNat)
    case atStart => exact ⟨0, Nat.zero_le _, rfl, by simp only [List.take_zero, List.flatten_nil, gotS_nil]; rfl, Nat.le_refl _, hE3, ⟨rfl, .inl ⟨rfl, rfl⟩⟩, hB3, hs3⟩
    case round =>
      obtain ⟨k, hk, rfl, rfl, hPl, hE, hown, hB, hgs⟩ := hrel
      clear hE3 hB3 hs3
      by_cases hlt : k < n
      · obtain ⟨b, hb⟩ : ∃ b, ps[k]? = some b := ⟨_, List.getElem?_eq_getElem (by rw [Hps.out]; exact hlt)⟩
        obtain ⟨ad, A', c', rfl, hcell0, hrow0, hbc⟩ := hI k b hb
        have hadlt := World.block_lt_of_cell? w _ hcell0
        obtain ⟨m, hm⟩ : ∃ m, b.length = m := ⟨_, rfl⟩
        rw [hm] at hcell0 hbc
        have hcell := (hB.cell hadlt).trans hcell0
        have hrow := hrow0.below hB
        have hpn := flat_take_succ hb
        obtain ⟨P, hP⟩ : ∃ P, (ps.take k).flatten = P := ⟨_, rfl⟩
        rw [hP] at hpn hPl hE hown ⊢
        have Hpn := Lib.hid hpn
        have Hm := Lib.hid hm
        clear hb hpn hm hP
        by_cases h200 : 200 < m
        · have h200' : (200 : Int) < m := by omega
          go_wp2_with fail
          go_ret
          exact ⟨rfl, hB⟩
        · have h200' : ¬ (200 : Int) < m := by omega
          have hA : b = [] ∨ ∀ ad', A' = some ad' → ad'.block ≠ g := by
            by_cases hb0 : b = []
            · exact .inl hb0
            · refine .inr fun ad' e => ?_
              have := hrow0.lt (by intro h0; exact hb0 (List.eq_nil_of_length_eq_zero (by have := congrArg List.length h0; rw [idc_length] at this; simpa using this))) ad' e
              omega
          clear hcell0 hrow0
          go_wp2_with fail
          refine (write_calls g P A' m c' b Hm.out (by omega) (by omega) _ hE hrow hA).mono ?_
          rintro e w1 ⟨rfl, hE1, hg1⟩
          have hadg : (ad.add k).block < g := by omega
          have hcell1 : w1.cell? (ad.add k) = some (.slice A' m c') := (World.cell?_of_block (hg1.block _ (by omega) (fun e => by injection e with e; omega))).trans hcell
          have hrow1 : Row w1 A' (idc b) := by
            rcases hA with h | h
            · rw [h]; exact .inl rfl
            · exact hrow.grown hg1 fun ad' e => by intro e2; injection e2 with e2; exact h ad' e e2
          have hown1 := own_far hown hg1 (Nat.lt_succ_self g)
          have hB1 := hB.grown hg1 hB.size (fun j hj => by injection hj with hj; omega)
          have hgs1 : g < w1.heap.size := Nat.lt_of_lt_of_le hgs hg1.size
          have hgw : ∀ j, j < wr.heap.size ∨ wr.heap.size ≤ j := fun j => Nat.lt_or_ge j _
          have Hown := Lib.hid hown
          have Hcell := Lib.hid hcell1
          have HA := Lib.hid hA
          clear hown hcell hrow hE hA hcell1
          obtain ⟨Q, hQ⟩ : ∃ Q, P ++ b = Q := ⟨_, rfl⟩
          have hQL : Q.length = P.length + m := by rw [← hQ, List.length_append, Hm.out]
          have hcat : str (gotS P) ++ str (encS (wholeS P b)) = str (gotS Q) := by rw [str_append, ← hQ, gotS_app]
          obtain ⟨z1, hz1'⟩ : ∃ z, (str (gotS P)).size = z := ⟨_, rfl⟩
          obtain ⟨z2, hz2'⟩ : ∃ z, (str (encS (wholeS P b))).size = z := ⟨_, rfl⟩
          obtain ⟨z3, hz3'⟩ : ∃ z, (str (gotS Q)).size = z := ⟨_, rfl⟩
          have hz1b : z1 = P.length / 3 * 4 := by rw [← hz1', str_size, gotS_len]
          have hz3b : z3 = Q.length / 3 * 4 := by rw [← hz3', str_size, gotS_len]
          have hz2b : z1 + z2 = z3 := by rw [← hz1', ← hz2', ← hz3', ← hcat]; simp [ByteArray.size_append]
          obtain ⟨QL, hQl⟩ : ∃ q, q = P.length + m := ⟨_, rfl⟩
          have hQl2 : Q.length = QL := by omega
          have hz1c : z1 ≤ 100000 := by omega
          have hz3c : z1 + z2 ≤ 100000 := by omega
          have htest : ((z3 : Int) != (QL : Int) / 3 * 4) = false := by rw [bne_eq_false_iff_eq]; omega
          have hQLb : QL ≤ 10000 := by omega
          have HQ := Lib.hid hQ
          have HQl := Lib.hid hQl
          have HQl2 := Lib.hid hQl2
          rw [hQ] at hE1
          have hidc : idc P ++ idc b = idc Q := by rw [← hQ, idc_app]
          have Hidc := Lib.hid hidc
          clear hQ hQL hQl hQl2 hz1b hz3b hz2b hidc
          have t1 : True := trivial
          have t2 : True := trivial
          have t3 : True := trivial
          go_wp2_with (first
            | (have _t := t1; refine wpList_load_one rfl 22 _ rfl _ rfl _ Try.isAgg22 Hcell.out ?_; simp only [Act.put, List.setIfInBounds_toArray, List.set_cons_succ, List.set_cons_zero]; clear t1)
            | (have _t := t2; at_builtin; go_must (refine wpList_append_row _ rfl _ _ 22 rfl (g + 1) 5 i0 (.int .u8 0) 1 1 Try.underlying22 hi0 hz0 hz1 hz2 rfl (by decide) _ _ _ rfl hown1 A' m c' (idc b) rfl (by rw [idc_length, Hm.out, Nat.mul_one]) hrow1 (idc_one _) (by unfold maxLen; omega) (by omega) hgs1 ?_); intro v2 w2 hown2 hg2 _; rw [Hidc.out, ← HQl.out] at hown2; obtain ⟨A2, c2, rfl, -⟩ := Row.of_own hown2; have hE2 := hE1.far hg2 (fun j hj => by have h1 := (hown1.lt j hj).1; have h2 := (Hown.out.lt j hj).2; omega); have hE3 := hE2.enc (Nat.le_of_lt hgs); have hB2 := hB1.grown hg2 hB1.size (fun j hj => by have h1 := (hown1.lt j hj).1; omega); have hgs2 : g < w2.heap.size := Nat.lt_of_lt_of_le hgs1 hg2.size; have Hown2 := Lib.hid hown2; clear hown2 hE2 hg2 hE1 hown1; clear t2)
            | (have _t := t3; go_at_call 17; go_must (refine (elen_calls g Q false _ hE3).mono ?_; rw [HQl2.out]; rintro e w3 ⟨rfl, rfl⟩; clear t3)))
          go_roundw
          case rel =>
            refine ⟨k + 1, by omega, by go_num, ?_, ?_, ?_, ?_, hB2, hgs2⟩
            · rw [Hpn.out, HQ.out]
            · rw [Hpn.out, HQ.out, HQl2.out, HQl.out]; omega
            · rw [Hpn.out, HQ.out]; exact hE3
            · rw [Hpn.out, HQ.out, HQl2.out]; exact Hown2.out
          case measure => simp [intOf]; omega
      · have e : k = n := by omega
        subst e
        rw [List.take_of_length_le (by rw [Hps.out]; omega)] at hPl hE hown ⊢
        obtain ⟨P, hP⟩ : ∃ P, ps.flatten = P := ⟨_, rfl⟩
        rw [hP] at hPl hE hown ⊢
        obtain ⟨A2, c2, rfl, -, -, hrow, -⟩ := Row.of_own hown
        have hcat : str (gotS P) ++ str (encS (restS P)) = str (encS P) := by rw [str_append, gotS_close]
        obtain ⟨z1, hz1'⟩ : ∃ z, (str (gotS P)).size = z := ⟨_, rfl⟩
        obtain ⟨z2, hz2'⟩ : ∃ z, (str (encS (restS P))).size = z := ⟨_, rfl⟩
        have hz1b : z1 ≤ 100000 := by rw [← hz1', str_size, gotS_len]; omega
        have hz2b : z1 + z2 ≤ 100000 := by
          have h1 : (str (encS P)).size = z1 + z2 := by rw [← hcat, ← hz1', ← hz2']; simp [ByteArray.size_append]
          rw [← h1, str_size, enc_eq, enc_len]; omega
        have Hown := Lib.hid hown
        clear hP hown
        go_wp2_with fail
        refine (close_calls g P _ hE).mono ?_
        rintro e w1 ⟨rfl, hE1, hg1⟩
        have hown1 := own_far Hown.out hg1 (Nat.lt_succ_self g)
        have hB1 := hB.grown hg1 hB.size (fun j hj => by injection hj with hj; omega)
        have hrow1 : Row w1 A2 (idc P) := by
          obtain ⟨A3, c3, h3, -, -, h4, -⟩ := Row.of_own hown1
          injection h3 with h3 _ _
          subst h3
          exact h4
        have Hown1 := Lib.hid hown1
        clear hE hrow hown1
        go_wp2_with fail
        refine (rencode_calls A2 P.length c2 P rfl (by omega) _ hrow1).mono ?_
        rintro e w2 ⟨rfl, rfl⟩
        go_wp2_with fail
        refine (wclosed_calls g P _ _ (hE1.grown (World.grownBy_alloc _ _ none) nofun nofun)).mono ?_
        rintro e w3 ⟨rfl, rfl⟩
        go_wp2_with fail
        refine (cclosed_calls g P _ (hE1.grown (World.grownBy_alloc _ _ none) nofun nofun)).mono ?_
        rintro e w4 ⟨rfl, rfl⟩
        go_wp2_with fail
        refine (elen_calls g P true _ (hE1.grown (World.grownBy_alloc _ _ none) nofun nofun)).mono ?_
        rintro e w5 ⟨rfl, rfl⟩
        go_wp2
        go_ret
        exact ⟨rfl, hB1.alloc hB1.size _⟩
theorem own : ownKnob Try.prog.godebug = none := by kernel_rfl
theorem laidOut : laidOutB Try.prog = true := by kernel_rfl
set_option maxRecDepth 100000 in
theorem lifted (os : Os) (started : os.Started) (H : Type) (enc : TypeId × Value → H) :
    ReturnsInHanded {} Try.checked os 7 .any (Rows.base64PiecesSpec.pre6 enc Try.prog Try.f7 Rows.base64PiecesRow.domain false) (Rows.base64PiecesSpec.post enc Try.prog Try.f7 false true false false) := by
  refine returnsInHanded_of_change (C := Try.checked) own started (by kernel_rfl) Try.func7
    (ChangeSpec.witness6 (enc := enc) (C := Try.checked) false ⟨#[], #[.slice none 0 0], []⟩ 8 (by kernel_rfl) (by kernel_rfl) (by kernel_rfl) (by kernel_rfl)) ?_
  intro W base args ds gs before hval0 hW hcnd _
  have hval : ∀ (j : Nat) t v, Try.f7.params[j]? = some t → args[j]? = some v → Value.okWide Try.prog W .any base t v := hval0
  have hW' := hW
  obtain ⟨p, q, hA0, hV, rfl, hfz, hnd⟩ := hW
  have hA : DataW.TrodAll enc Try.prog W 0 (fun _ => true) true Try.f7.params.toList args.toList ds p := hA0
  rw [Try.params7] at hA hval
  obtain ⟨v0, vs0, d0, ds0, p0, q0, hargs, rfl, rfl, h0, r0⟩ := trodAll_cons hA
  obtain ⟨rfl, rfl, rfl⟩ := trodAll_nil r0
  obtain rfl : args = #[v0] := by cases args; simp_all
  obtain ⟨rfl, rfl⟩ := trodVars_none hV
  have k0 := h0
  have lt0 : ∀ x ∈ p0, x.block < W.heap.size := by obtain ⟨m, hm⟩ := k0; exact DataW.trod_lt m _ _ _ hm
  obtain ⟨A0, n0, c0, ps0, rfl, hps0, hnc0, hc0, hI0⟩ := open_pieces_d (e2 := 22) (e := 5) Try.underlying35 Try.underlying22 (by kernel_rfl) Try.underlying5 (by kernel_rfl) (hval 0 35 v0 rfl rfl) h0
  clear hA0 hval0
  refine (law_all A0 ps0 c0 n0 hps0 W hI0).mono fun e W' ⟨he, bel⟩ => ?_
  subst he
  exact ⟨_, rfl, _, _, _, [], _, [], hW', trodAll_mk1 (shut_bool Try.underlying4 _), (trodAll_cons_mk (Below.trod laidOut (by kernel_rfl) (of_decide_eq_true (by kernel_rfl)) k0 bel lt0) trodAll_mk0), rfl, bel.frame _, fun h => by cases h⟩
theorem proved : Rows.Base64PiecesSaid :=
  OpenClaim.holds_of_wide 7 Try.f7 rfl rfl rfl rfl rfl rfl rfl ⟨rfl, rfl, rfl, rfl, rfl⟩ rfl rfl rfl rfl rfl (by kernel_rfl) Try.func7 (by kernel_rfl)
    (of_decide_eq_true (by kernel_rfl)) (by unfold Func.isWrapper; first | (rw [if_pos (by decide +kernel)]; kernel_rfl) | (rw [if_neg (by decide +kernel)]; exact ⟨rfl, rfl⟩))
    (fun os started H enc _ => lifted os started H enc)
end lawPieces
end Go.Proofs.Ytkmkidbajmbigaa
