/- Unwrap of the reference, walked. -/
import Derived.Test.YtkmkidbajmbigaaDoorUnP
import Derived.Test.YtkmkidbajmbigaaDoorT8
import Derived.Test.YtkmkidbajmbigaaDoorShelf
namespace Go.Proofs.YtkmkidbajmbigaaDoor
open Go Go.ChangeShapes Go.WideShapes Go.ChangeAt Go.RowKit
def UnRel (l' : List UInt8) (ps : List (List UInt8)) (w0 : Nat) (C : Option Nat) (o a f i : Value) : Prop :=
  ∃ (k f' i' wd : Nat) (rest : List (List UInt8)) (O : List UInt8), (ps.take k).flatten = O ∧ o = .string (ust O) ∧ a = .int .i64 wd ∧ f = .int .i64 f' ∧ i = .int .i64 i' ∧ SInv 10 l' rest f' i' ∧ chkL w0 rest f' = C ∧ ps.drop k = rest ∧ ((k = 0 ∧ wd = 0) ∨ (0 < k ∧ wd = w0 ∧ 0 < w0))
theorem run_empty {l : List UInt8} (h : l ≠ []) : l.isEmpty = false := by cases l <;> first | rfl | exact absurd rfl h
set_option maxRecDepth 100000 in
set_option maxHeartbeats 3200000 in
theorem runwrap_calls (l : List UInt8) (hlen : l.length ≤ 600) (w : World) :
    Calls Tryd.prog 6 #[.string (ust l)] w fun e w' => e = .returned (unwV (unwS l)) ∧ w' = w := by
  by_cases h0 : l = []
  · subst h0
    have hV : unwV (unwS []) = .tuple #[.string (ust []), .int .i64 0, .int .i64 0] := rfl
    rw [hV]
    go_enter Tryd.func6, Tryd.ntmps6
    go_wp2_with fail
    go_loop [5, 6, 7, 8] (fun o a f i => o = .string (ust []) ∧ a = .int .i64 0 ∧ f = .int .i64 0 ∧ i = .int .i64 0) (fun _ _ _ _ => 0)
    case atStart => exact ⟨rfl, rfl, rfl, rfl⟩
    case round =>
      obtain ⟨rfl, rfl, rfl, rfl⟩ := hrel
      go_wp2_with fail
      go_ret3
      exact ⟨rfl, rfl⟩
  · have hne := run_empty h0
    have hpos : 0 < l.length := List.length_pos_iff.2 h0
    obtain ⟨L, hL⟩ : ∃ L, l.length = L + 1 := ⟨l.length - 1, by omega⟩
    by_cases h10 : byteAt l L = 10
    · obtain ⟨l', hl'⟩ : ∃ l', l.take L = l' := ⟨_, rfl⟩
      have hll : l'.length = L := by rw [← hl', List.length_take]; omega
      obtain ⟨ps, hps⟩ : ∃ ps, splitN 10 l' = ps := ⟨_, rfl⟩
      obtain ⟨w0, hw0⟩ : ∃ w0, (ps.headD []).length = w0 := ⟨_, rfl⟩
      obtain ⟨C, hC⟩ : ∃ C, chkL w0 ps 0 = C := ⟨_, rfl⟩
      have hS : unwS l = unwL ps := by unfold unwS; rw [if_neg h0, show l.length - 1 = L by omega, if_neg (by simpa using h10), hl', hps]
      have HS := Lib.hid hS; have Hw0 := Lib.hid hw0; have HC := Lib.hid hC; have Hll := Lib.hid hll
      have Hget : Hid (∀ i, i < L → l[i]? = l'[i]?) := Lib.hid (fun i hi => by rw [← hl', List.getElem?_take, if_pos hi])
      have Hpart : Hid (∀ f i, i ≤ L → (l.drop f).take (i - f) = (l'.drop f).take (i - f)) := Lib.hid (fun f i hi => by rw [← hl', take_drop_take l hi])
      have Hst : Hid (SInv 10 l' ps 0 0) := Lib.hid (by rw [← hps]; exact sinv_start 10 l')
      have HL := Lib.hid hL
      have HT : Hid (l.length = L + 1) := Lib.hid hL
      have hL2 : L ≤ 599 := by omega
      have hlp : (1 : Int) ≤ l.length := by omega
      have hlq : 1 ≤ l.length := by omega
      have hl6 : (l.length : Int) ≤ 600 := by omega
      have hl7 : ¬ (349528 : Int) < l.length := by omega
      have hb : byteAt l (l.length - 1) = 10 := by rw [show l.length - 1 = L by omega]; exact h10
      have hfl : Hid (ps.flatten.length ≤ 600) := Lib.hid (by rw [← hps]; have := splitN_join 10 l'; omega)
      clear hps hw0 hC hS hll hl' h10 hpos hlen hL
      go_enter Tryd.func6, Tryd.ntmps6
      go_wp2_with fail
      go_loop [5, 6, 7, 8] (fun o a f i => UnRel l' ps w0 C o a f i) (fun _ _ _ i => L + 1 - (intOf i).toNat)
      case atStart => exact ⟨0, 0, 0, 0, ps, [], rfl, rfl, rfl, rfl, rfl, Hst.out, HC.out, rfl, .inl ⟨rfl, rfl⟩⟩
      case round =>
        obtain ⟨k, f, i, wd, rest, O, hO, rfl, rfl, rfl, rfl, hinv, hck, hdr, hwd⟩ := hrel
        have HO := Lib.hid hO; clear hO
        obtain ⟨hfi, hiL⟩ := sinv_le hinv
        rw [Hll.out] at hiL
        have Hdr := Lib.hid hdr; have Hwd := Lib.hid hwd
        have hT := HT.out
        have hi0 : (0 : Int) ≤ i := by omega
        have hf0 : (0 : Int) ≤ f := by omega
        by_cases h1 : i ≤ L
        · have i1 : (i : Int) < l.length := by omega
          have i1' : i < l.length := by omega
          by_cases hx : byteAt l i = 10
          · have hx' : i = l'.length ∨ l'[i]? = some 10 := by
              rw [Hll.out]
              by_cases hiL' : i = L
              · exact .inl hiL'
              · right; rw [← Hget.out i (by omega), byteAt_some i1', hx]
            obtain ⟨-, rest', hrest, hinv', hlast⟩ := sinv_piece hinv (by rw [Hll.out]; exact h1) hx'
            rw [Hll.out] at hlast
            obtain ⟨p, hp⟩ : ∃ p, (l'.drop f).take (i - f) = p := ⟨_, rfl⟩
            rw [hp] at hrest
            have hpl : p.length = i - f := by rw [← hp, List.length_take, List.length_drop, Hll.out]; omega
            have Hp : Hid ((l.drop f).take (i - f) = p) := Lib.hid (by rw [Hpart.out f i h1, hp])
            obtain ⟨n, hn⟩ : ∃ n, i - f = n := ⟨_, rfl⟩
            have hnI : (i : Int) - f = n := by omega
            have hck2 := chkL_drop hck hrest
            rw [hpl, hn] at hck2
            have Hrest := Lib.hid hrest; have Hlast := Lib.hid hlast; have Hinv := Lib.hid hinv'; have Hn := Lib.hid hn; have Hpl := Lib.hid hpl
            have hbad : badL w0 p rest'.isEmpty = decide (n = 0 ∨ 998 < n ∨ w0 < n ∨ (n < w0 ∧ i ≠ L)) := by
              have hie : rest'.isEmpty = decide (i = L) := by rw [Bool.eq_iff_iff, List.isEmpty_iff, decide_eq_true_eq]; exact hlast
              unfold badL
              rw [hpl, hn, hie]
              simp only [decide_eq_false_iff_not, ne_eq]
            rw [hbad] at hck2
            have hx1 : (((byteAt l i).toNat : Int) != 10) = false := by rw [hx]; rfl
            have HS3 : Hid (C = some f → unwV (unwS l) = .tuple #[.string (ust []), .int .i64 f, .int .i64 3]) := Lib.hid (fun e => by
              have := HC.out
              rw [← Hw0.out, e] at this
              rw [HS.out, unwL_some this]; rfl)
            have Hhd : Hid (k = 0 → w0 = n) := Lib.hid (fun e => by
              have h2 := Hdr.out
              rw [e, List.drop_zero, Hrest.out] at h2
              rw [← Hw0.out, h2, List.headD_cons, Hpl.out, Hn.out])
            have Hout : Hid ((ps.take (k + 1)).flatten = O ++ (l.drop f).take (i - f)) := Lib.hid (by
              rw [Hp.out, ← HO.out, List.take_add_one]
              have h2 := Hdr.out
              rw [Hrest.out] at h2
              have : ps[k]? = some p := by
                have := congrArg (fun x => x[0]?) h2
                simpa [List.getElem?_drop] using this
              rw [this]; simp)
            have Hdr2 : Hid (ps.drop (k + 1) = rest') := Lib.hid (by
              have h2 := Hdr.out
              rw [Hrest.out] at h2
              rw [← List.drop_drop, h2]; rfl)
            have hO6 : O.length ≤ 600 := by
              have h2 := Hout.out
              have h3 : (ps.take (k + 1)).flatten.length ≤ ps.flatten.length := by
                conv => rhs; rw [← List.take_append_drop (k + 1) ps]
                rw [List.flatten_append, List.length_append]; omega
              have h4 := hfl.out
              have h5 := congrArg List.length h2
              rw [List.length_append] at h5
              omega
            have hp6 : min (i - f) (l.length - f) ≤ 600 := by omega
            have hLI : (i : Int) = L ∨ (i : Int) < L := by omega
            have hlL : (l.length : Int) - 1 = L := by omega
            clear hbad hrest hlast hinv' hn hpl hp hinv hck hdr hwd hx' hx
            have hk2 : Hid ((C = some f ∧ (n = 0 ∨ 998 < n ∨ w0 < n ∨ (n < w0 ∧ i ≠ L))) ∨ (chkL w0 rest' (i + 1) = C ∧ 0 < n ∧ n ≤ 998 ∧ n ≤ w0 ∧ (w0 ≤ n ∨ i = L))) := Lib.hid (by
              rcases hck2 with ⟨h1, h2⟩ | ⟨h1, h2⟩
              · exact .inl ⟨h2, of_decide_eq_true h1⟩
              · have h3 := of_decide_eq_false h1
                refine .inr ⟨by rw [← h2]; congr 1; omega, by omega, by omega, by omega, by omega⟩)
            clear hck2
            rcases Hwd.out with ⟨hk0, rfl⟩ | ⟨hk0, hwd, hw0⟩
            · have hw0n := Hhd.out hk0
              subst hw0n
              have Hk0 := Lib.hid hk0; clear hk0
              rcases hk2.out with ⟨hC, hb4⟩ | ⟨hgo, g1, g2, -, -⟩
              · have hCf := Lib.hid hC; clear hC
                rcases (show w0 = 0 ∨ (0 < w0 ∧ 998 < w0) by omega) with e | ⟨e1, e2⟩
                · have e2 : ((w0 : Int) == 0) = true := by rw [beq_iff_eq]; omega
                  clear e hb4 hT hlL hLI
                  go_wp2_with fail
                  go_ret3
                  exact ⟨congrArg Ending.returned (HS3.out hCf.out).symm, rfl⟩
                · have e3 : ((w0 : Int) == 0) = false := by rw [beq_eq_false_iff_ne]; omega
                  have e4 : (998 : Int) < w0 := by omega
                  clear hb4 hT hlL hLI
                  go_wp2_with fail
                  go_ret3
                  exact ⟨congrArg Ending.returned (HS3.out hCf.out).symm, rfl⟩
              · have Hgo := Lib.hid hgo; clear hgo
                have e3 : ((w0 : Int) == 0) = false := by rw [beq_eq_false_iff_ne]; omega
                have e4 : (w0 : Int) ≤ 998 := by omega
                clear hT hlL hLI
                go_wp2_with fail
                go_round
                case rel => exact ⟨k + 1, i + 1, i + 1, w0, rest', _, Hout.out, rfl, rfl, by go_num, by go_num, Hinv.out, Hgo.out, Hdr2.out, .inr ⟨by omega, rfl, g1⟩⟩
                case measure => simp [intOf]; omega
            · subst hwd
              have e0 : ((wd : Int) == 0) = false := by rw [beq_eq_false_iff_ne]; omega
              rcases hk2.out with ⟨hC, hb4⟩ | ⟨hgo, g1, g2, g3, g4⟩
              · have hCf := Lib.hid hC; clear hC
                rcases (show n = 0 ∨ (0 < n ∧ 998 < n) ∨ (0 < n ∧ n ≤ 998 ∧ wd < n) ∨ (0 < n ∧ n ≤ 998 ∧ n < wd ∧ i ≠ L) by omega) with e | ⟨e1, e2⟩ | ⟨e1, e2, e3⟩ | ⟨e1, e2, e3, e4⟩
                · have e2 : ((n : Int) == 0) = true := by rw [beq_iff_eq]; omega
                  clear e hb4 hT hlL hLI
                  go_wp2_with fail
                  go_ret3
                  exact ⟨congrArg Ending.returned (HS3.out hCf.out).symm, rfl⟩
                · have e3 : ((n : Int) == 0) = false := by rw [beq_eq_false_iff_ne]; omega
                  have e4 : (998 : Int) < n := by omega
                  clear hb4 hT hlL hLI
                  go_wp2_with fail
                  go_ret3
                  exact ⟨congrArg Ending.returned (HS3.out hCf.out).symm, rfl⟩
                · have e5 : ((n : Int) == 0) = false := by rw [beq_eq_false_iff_ne]; omega
                  have e6 : (n : Int) ≤ 998 := by omega
                  have e7 : decide (wd < n) = true := decide_eq_true e3
                  clear hb4 hT hlL hLI
                  go_wp2_with fail
                  go_ret3
                  exact ⟨congrArg Ending.returned (HS3.out hCf.out).symm, rfl⟩
                · have e5 : ((n : Int) == 0) = false := by rw [beq_eq_false_iff_ne]; omega
                  have e6 : (n : Int) ≤ 998 := by omega
                  have e7 : decide (wd < n) = false := decide_eq_false (by omega)
                  have e8 : decide (n < wd) = true := decide_eq_true e3
                  have e9 : ((i : Int) != (l.length : Int) - 1) = true := by rw [bne_iff_ne]; omega
                  clear hb4 e4 hT hlL hLI
                  go_wp2_with fail
                  go_ret3
                  exact ⟨congrArg Ending.returned (HS3.out hCf.out).symm, rfl⟩
              · have Hgo := Lib.hid hgo; clear hgo
                have e3 : ((n : Int) == 0) = false := by rw [beq_eq_false_iff_ne]; omega
                have e4 : (n : Int) ≤ 998 := by omega
                have e7 : decide (wd < n) = false := decide_eq_false (by omega)
                rcases (show wd = n ∨ (n < wd ∧ i = L) by omega) with e | ⟨e, e'⟩
                · have e8 : decide (n < wd) = false := decide_eq_false (by omega)
                  clear e hT hlL hLI
                  go_wp2_with fail
                  go_round
                  case rel => exact ⟨k + 1, i + 1, i + 1, wd, rest', _, Hout.out, rfl, rfl, by go_num, by go_num, Hinv.out, Hgo.out, Hdr2.out, .inr ⟨by omega, rfl, hw0⟩⟩
                  case measure => simp [intOf]; omega
                · have e8 : decide (n < wd) = true := decide_eq_true e
                  have e9 : ((i : Int) != (l.length : Int) - 1) = false := by rw [bne_eq_false_iff_eq]; omega
                  clear e e' hT hlL hLI g4
                  go_wp2_with fail
                  go_round
                  case rel => exact ⟨k + 1, i + 1, i + 1, wd, rest', _, Hout.out, rfl, rfl, by go_num, by go_num, Hinv.out, Hgo.out, Hdr2.out, .inr ⟨by omega, rfl, hw0⟩⟩
                  case measure => simp [intOf]; omega
          · have hiL' : i < L := by
              rcases Nat.lt_or_ge i L with h | h
              · exact h
              · exact absurd (by rw [show i = l.length - 1 by omega]; exact hb) hx
            have hxI : ((byteAt l i).toNat : Int) ≠ 10 := fun e => hx (UInt8.toNat_inj.1 (by simpa using Int.ofNat.inj e))
            have hx2 : (((byteAt l i).toNat : Int) != 10) = true := by rw [bne_iff_ne]; exact hxI
            have Hs2 := Lib.hid (sinv_step hinv (show l'[i]? = some (byteAt l i) by rw [← Hget.out i hiL']; exact byteAt_some i1') hx)
            have Hck := Lib.hid hck
            clear hinv hck hdr hwd hx hxI hT
            go_wp2_with fail
            go_round
            case rel => exact ⟨k, f, i + 1, wd, rest, O, HO.out, rfl, rfl, rfl, by go_num, Hs2.out, Hck.out, Hdr.out, Hwd.out⟩
            case measure => simp [intOf]; omega
        · have he : i = L + 1 := by omega
          have hr : rest = [] := by
            rcases hinv with ⟨h, _⟩ | ⟨_, h, _⟩
            · rw [Hll.out] at h; omega
            · exact h
          subst hr
          rw [chkL] at hck
          have HV : Hid (unwV (unwS l) = .tuple #[.string (ust O), .int .i64 0, .int .i64 0]) := Lib.hid (by
            have := HC.out
            rw [← Hw0.out, ← hck] at this
            have h2 : ps.take k = ps := List.take_of_length_le (List.drop_eq_nil_iff.1 Hdr.out)
            rw [HS.out, unwL_none this, ← HO.out, h2]; rfl)
          have hol : O.length ≤ 600 := by
            have h2 : ps.take k = ps := List.take_of_length_le (List.drop_eq_nil_iff.1 Hdr.out)
            rw [← HO.out, h2]; exact hfl.out
          have hol2 : ¬ (174764 : Int) < O.length := by omega
          have i1 : ¬ (i : Int) < l.length := by omega
          clear hinv hck hdr hwd hol hT he h1
          go_wp2_with fail
          go_ret3
          exact ⟨congrArg Ending.returned HV.out.symm, rfl⟩
    · have hb : (byteAt l (l.length - 1)).toNat ≠ 10 := fun e => h10 (by rw [show L = l.length - 1 by omega]; exact UInt8.toNat_inj.1 e)
      have hS : Hid (unwV (unwS l) = .tuple #[.string (ust []), .int .i64 l.length, .int .i64 4]) := Lib.hid (by
        unfold unwS
        rw [if_neg h0, if_pos (by rw [show l.length - 1 = L by omega]; exact h10)]; rfl)
      have hlp : (1 : Int) ≤ l.length := by omega
      have hlq : 1 ≤ l.length := by omega
      have hl6 : (l.length : Int) ≤ 600 := by omega
      have hl7 : ¬ (349528 : Int) < l.length := by omega
      have hb2 : (((byteAt l (l.length - 1)).toNat : Int) != 10) = true := by rw [bne_iff_ne]; omega
      clear hb h10 hlen hL hpos
      go_enter Tryd.func6, Tryd.ntmps6
      go_wp2_with fail
      go_ret3
      exact ⟨congrArg Ending.returned hS.out.symm, rfl⟩
end Go.Proofs.YtkmkidbajmbigaaDoor
