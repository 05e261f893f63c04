/- The plain laws of base64: no program in sight. -/
import Derived.Test.YtkmkidbajmbigaaDoorT6
namespace Go.Proofs.YtkmkidbajmbigaaDoor

def q1 (a : UInt8) : UInt8 := chr (a.toNat / 4)
def q2 (a b : UInt8) : UInt8 := chr (a.toNat % 4 * 16 + b.toNat / 16)
def q3 (b c : UInt8) : UInt8 := chr (b.toNat % 16 * 4 + c.toNat / 64)
def q4 (c : UInt8) : UInt8 := chr (c.toNat % 64)
def encG : List UInt8 → List UInt8
  | [] => []
  | [a] => [q1 a, q2 a 0, 61, 61]
  | [a, b] => [q1 a, q2 a b, q3 b 0, 61]
  | a :: b :: c :: r => q1 a :: q2 a b :: q3 b c :: q4 c :: encG r
theorem step3 (o : List UInt8) (a b c : UInt8) : stepS (stepS (stepS ⟨o, 0, 0⟩ a) b) c = ⟨o ++ [q1 a, q2 a b, q3 b c, q4 c], 0, 0⟩ := by
  have ha := a.toNat_lt; have hb := b.toNat_lt; have hc := c.toNat_lt
  simp [stepS, emitS, pushS, q1, q2, q3, q4]
  all_goals repeat' first | (refine And.intro ?_ ?_) | (refine congrArg chr ?_)
  all_goals omega
theorem pad_app (o p : List UInt8) (h : o.length % 4 = 0) : padS (o ++ p) = o ++ padS p := by
  unfold padS
  rw [List.length_append, List.append_assoc, show (o.length + p.length) % 4 = p.length % 4 from by omega]
theorem enc_from (l : List UInt8) : ∀ o : List UInt8, o.length % 4 = 0 → padS (lastS (l.foldl stepS ⟨o, 0, 0⟩)) = o ++ encG l := by
  induction l using encG.induct with
  | case1 =>
    intro o h
    have : padS o = o := by unfold padS; rw [h]; simp
    simpa [lastS, encG] using this
  | case2 a =>
    intro o h
    have ha := a.toNat_lt
    have e : lastS (List.foldl stepS ⟨o, 0, 0⟩ [a]) = o ++ [q1 a, q2 a 0] := by
      simp [lastS, stepS, emitS, pushS, q1, q2]
      refine ⟨?_, ?_⟩
      all_goals refine congrArg chr ?_
      all_goals omega
    rw [e, pad_app o _ h]
    rfl
  | case3 a b =>
    intro o h
    have ha := a.toNat_lt; have hb := b.toNat_lt
    have e : lastS (List.foldl stepS ⟨o, 0, 0⟩ [a, b]) = o ++ [q1 a, q2 a b, q3 b 0] := by
      simp [lastS, stepS, emitS, pushS, q1, q2, q3]
      refine ⟨?_, ?_, ?_⟩
      all_goals refine congrArg chr ?_
      all_goals omega
    rw [e, pad_app o _ h]
    rfl
  | case4 a b c r ih =>
    intro o h
    rw [List.foldl_cons, List.foldl_cons, List.foldl_cons, step3, ih _ (by simp; omega)]
    simp [encG]
theorem enc_eq (l : List UInt8) : encS l = encG l := by
  have := enc_from l [] rfl
  simpa [encS, runS] using this
theorem enc_len (l : List UInt8) : (encG l).length = (l.length + 2) / 3 * 4 := by
  induction l using encG.induct with
  | case1 => rfl
  | case2 a => simp [encG]
  | case3 a b => simp [encG]
  | case4 a b c r ih => simp only [encG, List.length_cons, ih]; omega
theorem enc_append (l : List UInt8) : ∀ m, l.length % 3 = 0 → encG (l ++ m) = encG l ++ encG m := by
  induction l using encG.induct with
  | case1 => intro m _; rfl
  | case2 a => intro m h; simp at h
  | case3 a b => intro m h; simp at h
  | case4 a b c r ih =>
    intro m h
    have := ih m (by simp at h; omega)
    simp [encG, this]

/-! ### Decoding -/
theorem look_chr : ∀ v, v < 64 → lookOk (chr v).toNat = true ∧ lookV (chr v).toNat = v := by decide +kernel
theorem chr_look : ∀ c, c < 256 → lookOk c = true → (chr (lookV c)).toNat = c := by decide +kernel
theorem look_pad : lookOk (61 : UInt8).toNat = false := by decide +kernel
theorem dgo_ok (F : List UInt8) (c : UInt8) (r : List UInt8) (i : Nat) (st : DSt) (h : lookOk c.toNat = true) : dgo F (c :: r) i st = dgo F r (i + 1) (dstep st i (lookV c.toNat)) := by
  rw [dgo, if_pos h]
theorem dgo_chr (F : List UInt8) (v : Nat) (hv : v < 64) (r : List UInt8) (i : Nat) (st : DSt) : dgo F (chr v :: r) i st = dgo F r (i + 1) (dstep st i v) := by
  rw [dgo_ok F _ r i st (look_chr v hv).1, (look_chr v hv).2]
theorem dgo_pad (F : List UInt8) (r : List UInt8) (i : Nat) (st : DSt) (h : inPl F i = true) : dgo F (61 :: r) i st = dfin F st := by
  rw [dgo, if_neg (by rw [look_pad]; decide), if_pos ⟨rfl, h⟩]
theorem four (o : List UInt8) (t i v1 v2 v3 v4 : Nat) (_h1 : v1 < 64) (_h2 : v2 < 64) (_h3 : v3 < 64) (_h4 : v4 < 64) :
    dstep (dstep (dstep (dstep ⟨o, 0, 0, t⟩ i v1) (i + 1) v2) (i + 2) v3) (i + 3) v4 =
      ⟨o ++ [UInt8.ofNat (v1 * 4 + v2 / 16), UInt8.ofNat (v2 % 16 * 16 + v3 / 4), UInt8.ofNat (v3 % 4 * 64 + v4)], 0, 0, i + 3⟩ := by
  simp [dstep, -UInt8.ofNat_add, -UInt8.ofNat_mul]
  all_goals repeat' first | (refine And.intro ?_ ?_) | (refine congrArg UInt8.ofNat ?_)
  all_goals omega
theorem of8 (a : UInt8) (n : Nat) (h : n = a.toNat) : UInt8.ofNat n = a := by rw [h, UInt8.ofNat_toNat]
theorem dec_enc_from (F : List UInt8) (hF : F.length % 4 = 0) (l : List UInt8) : ∀ (i : Nat) (o : List UInt8) (t : Nat), F.drop i = encG l → i + (encG l).length = F.length → dgo F (encG l) i ⟨o, 0, 0, t⟩ = (o ++ l, 0, 0) := by
  induction l using encG.induct with
  | case1 =>
    intro i o t _ _
    simp [encG, dgo, dfin, hF]
  | case2 a =>
    intro i o t hd hl
    have ha := a.toNat_lt
    simp only [encG, List.length_cons, List.length_nil] at hl
    have hlast : F[F.length - 1]? = some 61 := by
      have : (F.drop i)[3]? = some 61 := by rw [hd]; rfl
      rw [List.getElem?_drop] at this
      rw [← this]; congr 1; omega
    simp only [encG]
    rw [q1, dgo_chr F _ (by omega), q2, dgo_chr F _ (by simp; omega), dgo_pad F _ _ _ (decide_eq_true ⟨hF, .inr ⟨by omega, hlast⟩⟩)]
    have hb : (a.toNat / 4 * 64 + a.toNat % 4 * 16) % 16 = 0 := by omega
    simp [dfin, dstep, hF, hb, -UInt8.ofNat_add, -UInt8.ofNat_mul]
    exact of8 a _ (by omega)
  | case3 a b =>
    intro i o t hd hl
    have ha := a.toNat_lt; have hb' := b.toNat_lt
    simp only [encG, List.length_cons, List.length_nil] at hl
    simp only [encG]
    rw [q1, dgo_chr F _ (by omega), q2, dgo_chr F _ (by omega), q3, dgo_chr F _ (by simp; omega), dgo_pad F _ _ _ (decide_eq_true ⟨hF, .inl (by omega)⟩)]
    have hb : ((a.toNat / 4 * 64 + (a.toNat % 4 * 16 + b.toNat / 16)) % 16 * 64 + b.toNat % 16 * 4) % 4 = 0 := by omega
    simp [dfin, dstep, hF, hb, -UInt8.ofNat_add, -UInt8.ofNat_mul]
    exact ⟨of8 a _ (by omega), of8 b _ (by omega)⟩
  | case4 a b c r ih =>
    intro i o t hd hl
    have ha := a.toNat_lt; have hb := b.toNat_lt; have hc := c.toNat_lt
    simp only [encG, List.length_cons] at hl hd ⊢
    rw [q1, dgo_chr F _ (by omega), q2, dgo_chr F _ (by omega), q3, dgo_chr F _ (by omega), q4, dgo_chr F _ (by omega)]
    rw [four _ _ _ _ _ _ _ (by omega) (by omega) (by omega) (by omega)]
    rw [ih (i + 1 + 1 + 1 + 1) _ _ ?_ (by omega)]
    · rw [of8 a _ (by omega), of8 b _ (by omega), of8 c _ (by omega)]
      simp
    · rw [show i + 1 + 1 + 1 + 1 = i + 4 from rfl, ← List.drop_drop, hd]
      rfl
theorem dec_enc (l : List UInt8) : decS (encS l) = (l, 0, 0) := by
  rw [enc_eq]
  unfold decS
  exact dec_enc_from (encG l) (by rw [enc_len]; omega) l 0 [] 0 rfl (by omega)
end Go.Proofs.YtkmkidbajmbigaaDoor
