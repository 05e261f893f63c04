/- What is decoded is the only encoding. -/
import Derived.Test.YtkmkidbajmbigaaDoorP1
namespace Go.Proofs.YtkmkidbajmbigaaDoor

theorem dfin_err (F : List UInt8) (st : DSt) : (dfin F st).2.2 ≠ 0 → (dfin F st).1 = [] := by
  unfold dfin
  split
  · exact fun _ => rfl
  · split
    · exact fun _ => rfl
    · exact fun h => absurd rfl h
theorem dgo_err (F : List UInt8) : ∀ (r : List UInt8) (i : Nat) (st : DSt), (dgo F r i st).2.2 ≠ 0 → (dgo F r i st).1 = []
  | [], i, st => dfin_err F st
  | c :: r, i, st => by
    rw [dgo]
    split
    · exact dgo_err F r _ _
    · split
      · exact dfin_err F st
      · exact fun _ => rfl
theorem dfin_ok {F : List UInt8} {st : DSt} {b : List UInt8} {at' : Nat} (h : dfin F st = (b, at', 0)) : F.length % 4 = 0 ∧ st.bits = 0 ∧ st.out = b := by
  unfold dfin at h
  split at h
  · simp at h
  · split at h
    · simp at h
    · rename_i h1 h2
      injection h with h3 h4
      exact ⟨by omega, by omega, h3⟩
theorem dgo_len {F : List UInt8} {b : List UInt8} {at' : Nat} : ∀ (r : List UInt8) (i : Nat) (st : DSt), dgo F r i st = (b, at', 0) → F.length % 4 = 0
  | [], i, st, h => (dfin_ok h).1
  | c :: r, i, st, h => by
    rw [dgo] at h
    split at h
    · exact dgo_len r _ _ h
    · split at h
      · exact (dfin_ok h).1
      · simp at h
theorem chr_look' (c : UInt8) (h : lookOk c.toNat = true) : chr (lookV c.toNat) = c := UInt8.toNat_inj.1 (chr_look c.toNat c.toNat_lt h)
/-- one character more -/
theorem dgo_step {F : List UInt8} {c : UInt8} {r : List UInt8} {i : Nat} {st : DSt} {b : List UInt8} {at' : Nat} (h : dgo F (c :: r) i st = (b, at', 0)) :
    (lookOk c.toNat = true ∧ dgo F r (i + 1) (dstep st i (lookV c.toNat)) = (b, at', 0)) ∨ (c = 61 ∧ inPl F i = true ∧ dfin F st = (b, at', 0)) := by
  rw [dgo] at h
  split at h
  · rename_i h1
    exact .inl ⟨h1, h⟩
  · split at h
    · rename_i h1
      exact .inr ⟨h1.1, h1.2, h⟩
    · simp at h
theorem inPl_far {F : List UInt8} {i : Nat} (h : inPl F i = true) : i + 2 = F.length ∨ i + 1 = F.length := by
  have := of_decide_eq_true h
  rcases this.2 with h | h
  · exact .inr h
  · exact .inl h.1
theorem dec_canon (F : List UInt8) (b : List UInt8) (at' : Nat) : ∀ (n : Nat) (rest : List UInt8) (i : Nat) (o : List UInt8) (t : Nat), rest.length = n → F.drop i = rest → i + rest.length = F.length → rest.length % 4 = 0 →
    dgo F rest i ⟨o, 0, 0, t⟩ = (b, at', 0) → ∃ r, rest = encG r ∧ b = o ++ r := by
  intro n
  induction n using Nat.strongRecOn with
  | _ n ih =>
    intro rest i o t hn hd hl h4 hg
    match rest, hn, hd, hl, h4, hg with
    | [], _, _, _, _, hg => exact ⟨[], rfl, by have := (dfin_ok hg).2.2; simpa using this.symm⟩
    | [_], _, _, _, h4, _ => simp at h4
    | [_, _], _, _, _, h4, _ => simp at h4
    | [_, _, _], _, _, _, h4, _ => simp at h4
    | c1 :: c2 :: c3 :: c4 :: r, hn, hd, hl, h4, hg =>
      simp only [List.length_cons] at hl h4 hn
      have g1 : (F.drop i)[3]? = some c4 := by rw [hd]; rfl
      rw [List.getElem?_drop] at g1
      rcases dgo_step hg with ⟨k1, hg⟩ | ⟨_, hp, _⟩
      · rcases dgo_step hg with ⟨k2, hg⟩ | ⟨_, hp, _⟩
        · have l1 := lookV_lt _ k1
          have l2 := lookV_lt _ k2
          have e1 := chr_look' c1 k1
          have e2 := chr_look' c2 k2
          generalize lookV c1.toNat = v1 at hg l1 e1
          generalize lookV c2.toNat = v2 at hg l2 e2
          rcases dgo_step hg with ⟨k3, hg⟩ | ⟨rfl, hp, hf⟩
          · have l3 := lookV_lt _ k3
            have e3 := chr_look' c3 k3
            generalize lookV c3.toNat = v3 at hg l3 e3
            rcases dgo_step hg with ⟨k4, hg⟩ | ⟨rfl, hp, hf⟩
            · have l4 := lookV_lt _ k4
              have e4 := chr_look' c4 k4
              generalize lookV c4.toNat = v4 at hg l4 e4
              rw [four _ _ _ _ _ _ _ l1 l2 l3 l4] at hg
              obtain ⟨q, hq1, hq2⟩ := ih r.length (by omega) r (i + 1 + 1 + 1 + 1) _ _ rfl (by rw [show i + 1 + 1 + 1 + 1 = i + 4 from rfl, ← List.drop_drop, hd]; rfl) (by omega) (by omega) hg
              refine ⟨UInt8.ofNat (v1 * 4 + v2 / 16) :: UInt8.ofNat (v2 % 16 * 16 + v3 / 4) :: UInt8.ofNat (v3 % 4 * 64 + v4) :: q, ?_, by rw [hq2]; simp⟩
              have t1 : (UInt8.ofNat (v1 * 4 + v2 / 16)).toNat = v1 * 4 + v2 / 16 := by rw [UInt8.toNat_ofNat']; omega
              have t2 : (UInt8.ofNat (v2 % 16 * 16 + v3 / 4)).toNat = v2 % 16 * 16 + v3 / 4 := by rw [UInt8.toNat_ofNat']; omega
              have t3 : (UInt8.ofNat (v3 % 4 * 64 + v4)).toNat = v3 % 4 * 64 + v4 := by rw [UInt8.toNat_ofNat']; omega
              simp only [encG, q1, q2, q3, q4, t1, t2, t3, hq1]
              rw [← e1, ← e2, ← e3, ← e4]
              congr 1
              · congr 1; omega
              · congr 1
                · congr 1; omega
                · congr 1
                  · congr 1; omega
                  · congr 1
                    congr 1; omega
            · have hin := inPl_far hp
              have hr : r = [] := List.eq_nil_of_length_eq_zero (by omega)
              subst hr
              obtain ⟨_, f2, f3⟩ := dfin_ok hf
              simp [dstep, -UInt8.ofNat_add, -UInt8.ofNat_mul] at f2 f3
              refine ⟨[UInt8.ofNat ((v1 * 64 + v2) / 16), UInt8.ofNat (((v1 * 64 + v2) % 16 * 64 + v3) / 4)], ?_, f3.symm⟩
              have t1 : (UInt8.ofNat ((v1 * 64 + v2) / 16)).toNat = (v1 * 64 + v2) / 16 := by rw [UInt8.toNat_ofNat']; omega
              have t2 : (UInt8.ofNat (((v1 * 64 + v2) % 16 * 64 + v3) / 4)).toNat = ((v1 * 64 + v2) % 16 * 64 + v3) / 4 := by rw [UInt8.toNat_ofNat']; omega
              simp only [encG, q1, q2, q3, t1, t2]
              rw [← e1, ← e2, ← e3]
              congr 1
              · congr 1; omega
              · congr 1
                · congr 1; omega
                · congr 1
                  congr 1; simp; omega
          · have hin := inPl_far hp
            have hr : r = [] := List.eq_nil_of_length_eq_zero (by omega)
            subst hr
            have hl2 := (of_decide_eq_true hp).2
            have hc4 : c4 = 61 := by
              rcases hl2 with h | ⟨_, h⟩
              · simp at hl; omega
              · rw [show F.length - 1 = i + 3 from by simp at hl; omega, g1] at h
                injection h
            subst hc4
            obtain ⟨_, f2, f3⟩ := dfin_ok hf
            simp [dstep, -UInt8.ofNat_add, -UInt8.ofNat_mul] at f2 f3
            refine ⟨[UInt8.ofNat ((v1 * 64 + v2) / 16)], ?_, f3.symm⟩
            have t1 : (UInt8.ofNat ((v1 * 64 + v2) / 16)).toNat = (v1 * 64 + v2) / 16 := by rw [UInt8.toNat_ofNat']; omega
            simp only [encG, q1, q2, t1]
            rw [← e1, ← e2]
            congr 1
            · congr 1; omega
            · congr 1
              congr 1; simp; omega
        · have := inPl_far hp
          omega
      · have := inPl_far hp
        omega
theorem enc_dec (F b : List UInt8) (at' : Nat) (h : decS F = (b, at', 0)) : encS b = F := by
  have h4 := dgo_len F 0 _ h
  obtain ⟨r, h1, h2⟩ := dec_canon F b at' F.length F 0 [] 0 rfl rfl (by omega) h4 h
  rw [enc_eq, h2, List.nil_append, ← h1]
theorem dec_err (F : List UInt8) (h : (decS F).2.2 ≠ 0) : (decS F).1 = [] := dgo_err F F 0 _ h
end Go.Proofs.YtkmkidbajmbigaaDoor
