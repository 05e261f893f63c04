/- The reference's Encode, walked. -/
import Derived.Test.YtkmkidbajmbigaaT3
namespace Go.Proofs.Ytkmkidbajmbigaa
open Go.ChangeShapes Go.WideShapes Go.ChangeAt Go.RowKit

def bitS (s : St) (b : Nat) : St := if s.cnt + 1 = 6 then ⟨s.out ++ [chr (2 * s.bits + b)], 0, 0⟩ else ⟨s.out, 2 * s.bits + b, s.cnt + 1⟩
def bitOf (x : UInt8) (k : Nat) : Nat := x.toNat / 2 ^ k % 2
def goS (s : St) (x : UInt8) : Nat → St
  | 0 => s
  | j + 1 => bitS (goS s x j) (bitOf x (7 - j))
theorem goS_all (s : St) (x : UInt8) (h : okS s) : goS s x 8 = stepS s x := by
  obtain ⟨o, b, n⟩ := s
  obtain ⟨h1, h2⟩ := h
  simp only at h1 h2
  have hx := x.toNat_lt
  rcases h1 with rfl | rfl | rfl
  all_goals simp [goS, bitS, stepS, emitS, pushS, bitOf]
  all_goals repeat' first | (refine And.intro ?_ ?_) | (refine congrArg chr ?_)
  all_goals omega
def bitOk (s : St) : Prop := s.cnt < 6 ∧ s.bits < 2 ^ s.cnt
theorem bit_ok {s : St} (h : bitOk s) {b : Nat} (hb : b < 2) : bitOk (bitS s b) := by
  obtain ⟨h1, h2⟩ := h
  unfold bitS
  split
  · exact ⟨show (0:Nat) < 6 by decide, show (0:Nat) < 2 ^ 0 by decide⟩
  · rename_i h3
    refine ⟨by simp only; omega, ?_⟩
    simp only
    rw [Nat.pow_succ]
    omega
theorem goS_ok (s : St) (x : UInt8) (h : bitOk s) : ∀ j, bitOk (goS s x j)
  | 0 => h
  | j + 1 => bit_ok (goS_ok s x h j) (Nat.mod_lt _ (by decide))
theorem bitS_len (s : St) (b : Nat) : (bitS s b).out.length ≤ s.out.length + 1 := by
  unfold bitS
  split <;> simp
theorem goS_len (s : St) (x : UInt8) : ∀ j, (goS s x j).out.length ≤ s.out.length + j
  | 0 => Nat.le_refl _
  | j + 1 => by
    have := goS_len s x j
    have := bitS_len (goS s x j) (bitOf x (7 - j))
    simp only [goS]
    omega
theorem ok_bitOk {s : St} (h : okS s) : bitOk s := ⟨by have := h.1; omega, h.2⟩
def str (l : List UInt8) : ByteArray := ⟨l.toArray⟩
theorem str_size (l : List UInt8) : (str l).size = l.length := by simp [str, ByteArray.size]
def alph : ByteArray := { data := #[65, 66, 67, 68, 69, 70, 71, 72, 73, 74, 75, 76, 77, 78, 79, 80, 81, 82, 83, 84, 85, 86, 87, 88, 89, 90, 97, 98, 99, 100, 101, 102, 103, 104, 105, 106, 107, 108, 109, 110, 111, 112, 113, 114, 115, 116, 117, 118, 119, 120, 121, 122, 48, 49, 50, 51, 52, 53, 54, 55, 56, 57, 43, 47] }
theorem alph_at (v : Nat) (h : v < 64) : alph.extract v (v + 1) = str [chr v] := by
  have : ∀ v, v < 64 → (alph.extract v (v + 1)).data.toList = [chr v] := by decide +kernel
  have h2 := this v h
  apply ByteArray.ext
  apply Array.toList_inj.1
  rw [h2]
  rfl
theorem str_append (a b : List UInt8) : str a ++ str b = str (a ++ b) := by
  apply ByteArray.ext
  apply Array.toList_inj.1
  simp [str]

set_option maxHeartbeats 1600000 in
theorem rencode_calls (A : Option Addr) (n c : Nat) (l : List UInt8) (hl : l.length = n) (hn : n ≤ 100000) (w : World) (hr : Row w A (idc l)) :
    Calls Try.prog 10 #[.slice A n c] w fun e w' => e = .returned (.string (str (encS l))) ∧ w' = w := by
  have Hl := Lib.hid hl
  clear hl
  go_enter Try.func10, Try.ntmps10
  go_wp2_with fail
  go_loop [3, 4, 5, 6] (fun s v h i => ∃ k : Nat, k ≤ n ∧ i = .int .i64 k ∧ s = .string (str (runS (l.take k)).out) ∧ v = .int .i64 (runS (l.take k)).bits ∧ h = .int .i64 (runS (l.take k)).cnt) (fun _ _ _ i => n - (intOf i).toNat)
  case atStart => exact ⟨0, Nat.zero_le _, rfl, rfl, rfl, rfl⟩
  case round =>
    obtain ⟨k, hk, rfl, rfl, rfl, rfl⟩ := hrel
    by_cases hlt : k < n
    · have hkl : k < l.length := by rw [Hl.out]; exact hlt
      obtain ⟨ad, rfl, hcell⟩ : ∃ ad, A = some ad ∧ w.cell? (ad.add k) = some (.int .u8 (l[k]).toNat) := by
        rcases hr with h | ⟨ad, rfl, h⟩
        · have : (idc l).length = 0 := by rw [h]; rfl
          rw [idc_length] at this; omega
        · exact ⟨ad, rfl, h k _ (by simp [idc, hkl])⟩
      obtain ⟨x, hx⟩ : ∃ x, x = l[k] := ⟨_, rfl⟩
      rw [← hx] at hcell
      have Hs := Lib.hid (runS_succ l k x (by rw [hx]; exact List.getElem?_eq_getElem hkl))
      clear hx
      have hok := runS_ok (l.take k)
      have hlen := runS_len (l.take k)
      generalize runS (l.take k) = st at Hs hok hlen ⊢
      have hlen2 : st.out.length ≤ 500000 := by rw [List.length_take] at hlen; omega
      clear hlen hkl
      have hok2 := ok_bitOk hok
      go_wp2_with fail
      go_loop [3, 4, 5, 7] (fun s v h i => ∃ j : Nat, j ≤ 8 ∧ i = .int .i64 (7 - j) ∧ s = .string (str (goS st x j).out) ∧ v = .int .i64 (goS st x j).bits ∧ h = .int .i64 (goS st x j).cnt) (fun _ _ _ i => (intOf i + 1).toNat)
      case atStart => exact ⟨0, by omega, rfl, rfl, rfl, rfl⟩
      case round =>
        obtain ⟨j, hj, rfl, rfl, rfl, rfl⟩ := hrel
        by_cases hj8 : j < 8
        · obtain ⟨q, hq⟩ : ∃ q : Nat, q + j = 7 := ⟨7 - j, by omega⟩
          have eq7 : (7 : Int) - j = q := by omega
          rw [eq7]
          have hgo := goS_ok st x hok2 j
          have hgl := goS_len st x j
          have hnext : goS st x (j + 1) = bitS (goS st x j) (bitOf x q) := by rw [goS, show 7 - j = q from by omega]
          have Hn := Lib.hid hnext
          clear hnext
          generalize goS st x j = g at hgo hgl Hn ⊢
          obtain ⟨o, bits, cnt⟩ := g
          obtain ⟨hg1, hg2⟩ := hgo
          simp only at hg1 hg2 hgl
          have hb64 : bits < 32 := Nat.lt_of_lt_of_le hg2 (Nat.pow_le_pow_right (n := 2) (by omega) (show cnt ≤ 5 by omega))
          obtain ⟨b, hb⟩ : ∃ b, b = bitOf x q := ⟨_, rfl⟩
          have hb2 : b < 2 := by rw [hb]; exact Nat.mod_lt _ (by decide)
          have hx8 := x.toNat_lt
          have hand := u8_and_nat (x.toNat / 2 ^ q) 1 (Nat.lt_of_le_of_lt (Nat.div_le_self _ _) (by omega)) (by omega)
          rw [Nat.and_one_is_mod, show x.toNat / 2 ^ q % 2 = b from hb.symm] at hand
          simp at hand
          rw [← hb] at Hn
          clear hb
          have h8 : ¬ ((q : Int) < 0) := by omega
          have hj1 : (7 : Int) - ((j + 1 : Nat) : Int) = (q : Int) - 1 := by omega
          have Hj := Lib.hid hj1
          have Hq := Lib.hid hq
          have hq7 : q ≤ 7 := by omega
          clear hj1 hq eq7
          by_cases h5 : cnt = 5
          · have hext := alph_at (2 * bits + b) (by omega)
            have hsz1 : (str o ++ str [chr (2 * bits + b)]).size ≤ 9223372036854775807 := by rw [str_append, str_size]; simp; omega
            have hsz2 : (str o).size + (str [chr (2 * bits + b)]).size ≤ 9223372036854775807 := by rw [str_size, str_size]; simp; omega
            unfold alph at hext
            subst h5
            go_wp2_with fail
            refine ⟨⟨j + 1, by omega, ?_, ?_, ?_, ?_⟩, by simp [intOf]⟩
            · rw [Hj.out]
            · rw [str_append, Hn.out]; rfl
            · rw [Hn.out]; rfl
            · rw [Hn.out]; rfl
          · have h5' : ¬ (cnt : Int) + 1 = 6 := by omega
            have H5 := Lib.hid h5
            clear h5
            go_wp2_with fail
            have hbs : bitS ⟨o, bits, cnt⟩ b = ⟨o, 2 * bits + b, cnt + 1⟩ := by unfold bitS; rw [if_neg (by have := H5.out; simp only; omega)]
            refine ⟨⟨j + 1, by omega, ?_, ?_, ?_, ?_⟩, by simp [intOf]⟩
            · rw [Hj.out]
            · rw [Hn.out, hbs]
            · rw [Hn.out, hbs]; simp
            · rw [Hn.out, hbs]; simp
        · have hj' : j = 8 := by omega
          subst hj'
          rw [goS_all st x hok, ← Hs.out]
          have hm1 : (7 : Int) - ((8 : Nat) : Int) = -1 := rfl
          rw [hm1]
          go_wp2_with fail
          exact ⟨⟨k + 1, by omega, by go_num, rfl, rfl, rfl⟩, by simp [intOf]; omega⟩
    · have e : k = n := by omega
      subst e
      have ht : l.take k = l := List.take_of_length_le (Nat.le_of_eq Hl.out)
      rw [ht]
      have hok := runS_ok l
      have hlen := runS_len l
      have HS : Hid (encS l = padS (lastS (runS l))) := Lib.hid rfl
      have hll := lastS_len (runS l)
      rw [Hl.out] at hlen
      generalize runS l = st at hok hlen HS hll ⊢
      obtain ⟨o, bits, cnt⟩ := st
      obtain ⟨hcnt, hbits⟩ := hok
      simp only at hcnt hbits hlen
      rcases hcnt with rfl | rfl | rfl
      · go_wp2_with fail
        obtain ⟨o', ho'⟩ : ∃ o', o' = lastS ⟨o, bits, 0⟩ := ⟨_, rfl⟩
        rw [show o = o' from by rw [ho']; rfl]
        rw [← ho'] at HS hll
        have hol' : o'.length ≤ 500000 := by have : o'.length ≤ o.length + 1 := hll; omega
        clear ho' 
        go_loopg [3] ((4 - o'.length % 4) % 4) (fun q s wr => wr = w ∧ ∃ j : Nat, j + q = (4 - o'.length % 4) % 4 ∧ s = .string (str (o' ++ List.replicate j 61)))
        case atStart => exact ⟨rfl, 0, by omega, by simp⟩
        case round =>
          obtain ⟨rfl, j, hj, rfl⟩ := hrel
          have hL : (str (o' ++ List.replicate j 61)).size = o'.length + j := by rw [str_size]; simp
          obtain ⟨L, hLL⟩ : ∃ L, L = o'.length + j := ⟨_, rfl⟩
          rw [← hLL] at hL
          have HLL := Lib.hid hLL
          have hL5 : L ≤ 600000 := by omega
          by_cases hz : gk = 0
          · have hmod2 : (L : Int) % 4 = 0 := by omega
            have Hz := Lib.hid hz
            clear hz hLL
            go_wp2_with fail
            go_ret
            refine ⟨?_, rfl⟩
            rw [HS.out]
            have hz := Hz.out
            subst hz
            unfold padS
            rw [← hj]
            rfl
          · have hmod : ¬ (L : Int) % 4 = 0 := by omega
            have Hz := Lib.hid hz
            have hsz3 : (str [61]).size = 1 := rfl
            have hlit : ({ data := #[61] } : ByteArray) = str [61] := rfl
            clear hz hLL
            go_wp2_with fail
            go_roundg (gk - 1)
            case measure => have := Hz.out; omega
            case rel =>
              refine ⟨rfl, j + 1, by have := Hz.out; omega, ?_⟩
              rw [List.replicate_succ', ← List.append_assoc, str_append]
      · have hext := alph_at (2 * (2 * (2 * (2 * bits)))) (by simp at hbits; omega)
        have hsz1 : (str o).size + (str [chr (2 * (2 * (2 * (2 * bits))))]).size ≤ 9223372036854775807 := by rw [str_size, str_size]; simp; omega
        unfold alph at hext
        go_wp2_with fail
        refine wp_loop_rounds 5 ?_
        iterate 5 (rw [rounds_succ]; go_wp2_with fail)
        obtain ⟨o', ho'⟩ : ∃ o', o' = lastS ⟨o, bits, 2⟩ := ⟨_, rfl⟩
        have hch : chr (2 * (2 * (2 * (2 * bits)))) = chr (bits * 2 ^ (6 - 2) / 2 ^ (6 - 6) % 64) := by congr 1; simp at hbits; omega
        rw [str_append, hch, show o ++ [chr (bits * 2 ^ (6 - 2) / 2 ^ (6 - 6) % 64)] = o' from by rw [ho']; rfl]
        rw [← ho'] at HS hll
        clear ho' hch hsz1 hext
        have hol' : o'.length ≤ 500000 := by have : o'.length ≤ o.length + 1 := hll; omega
        go_loopg [3] ((4 - o'.length % 4) % 4) (fun q s wr => wr = w ∧ ∃ j : Nat, j + q = (4 - o'.length % 4) % 4 ∧ s = .string (str (o' ++ List.replicate j 61)))
        case atStart => exact ⟨rfl, 0, by omega, by simp⟩
        case round =>
          obtain ⟨rfl, j, hj, rfl⟩ := hrel
          have hL : (str (o' ++ List.replicate j 61)).size = o'.length + j := by rw [str_size]; simp
          obtain ⟨L, hLL⟩ : ∃ L, L = o'.length + j := ⟨_, rfl⟩
          rw [← hLL] at hL
          have HLL := Lib.hid hLL
          have hL5 : L ≤ 600000 := by omega
          by_cases hz : gk = 0
          · have hmod2 : (L : Int) % 4 = 0 := by omega
            have Hz := Lib.hid hz
            clear hz hLL
            go_wp2_with fail
            go_ret
            refine ⟨?_, rfl⟩
            rw [HS.out]
            have hz := Hz.out
            subst hz
            unfold padS
            rw [← hj]
            rfl
          · have hmod : ¬ (L : Int) % 4 = 0 := by omega
            have Hz := Lib.hid hz
            have hsz3 : (str [61]).size = 1 := rfl
            have hlit : ({ data := #[61] } : ByteArray) = str [61] := rfl
            clear hz hLL
            go_wp2_with fail
            go_roundg (gk - 1)
            case measure => have := Hz.out; omega
            case rel =>
              refine ⟨rfl, j + 1, by have := Hz.out; omega, ?_⟩
              rw [List.replicate_succ', ← List.append_assoc, str_append]
      · have hext := alph_at (2 * (2 * bits)) (by simp at hbits; omega)
        have hsz1 : (str o).size + (str [chr (2 * (2 * bits))]).size ≤ 9223372036854775807 := by rw [str_size, str_size]; simp; omega
        unfold alph at hext
        go_wp2_with fail
        refine wp_loop_rounds 3 ?_
        iterate 3 (rw [rounds_succ]; go_wp2_with fail)
        obtain ⟨o', ho'⟩ : ∃ o', o' = lastS ⟨o, bits, 4⟩ := ⟨_, rfl⟩
        have hch : chr (2 * (2 * bits)) = chr (bits * 2 ^ (6 - 4) / 2 ^ (6 - 6) % 64) := by congr 1; simp at hbits; omega
        rw [str_append, hch, show o ++ [chr (bits * 2 ^ (6 - 4) / 2 ^ (6 - 6) % 64)] = o' from by rw [ho']; rfl]
        rw [← ho'] at HS hll
        clear ho' hch hsz1 hext
        have hol' : o'.length ≤ 500000 := by have : o'.length ≤ o.length + 1 := hll; omega
        go_loopg [3] ((4 - o'.length % 4) % 4) (fun q s wr => wr = w ∧ ∃ j : Nat, j + q = (4 - o'.length % 4) % 4 ∧ s = .string (str (o' ++ List.replicate j 61)))
        case atStart => exact ⟨rfl, 0, by omega, by simp⟩
        case round =>
          obtain ⟨rfl, j, hj, rfl⟩ := hrel
          have hL : (str (o' ++ List.replicate j 61)).size = o'.length + j := by rw [str_size]; simp
          obtain ⟨L, hLL⟩ : ∃ L, L = o'.length + j := ⟨_, rfl⟩
          rw [← hLL] at hL
          have HLL := Lib.hid hLL
          have hL5 : L ≤ 600000 := by omega
          by_cases hz : gk = 0
          · have hmod2 : (L : Int) % 4 = 0 := by omega
            have Hz := Lib.hid hz
            clear hz hLL
            go_wp2_with fail
            go_ret
            refine ⟨?_, rfl⟩
            rw [HS.out]
            have hz := Hz.out
            subst hz
            unfold padS
            rw [← hj]
            rfl
          · have hmod : ¬ (L : Int) % 4 = 0 := by omega
            have Hz := Lib.hid hz
            have hsz3 : (str [61]).size = 1 := rfl
            have hlit : ({ data := #[61] } : ByteArray) = str [61] := rfl
            clear hz hLL
            go_wp2_with fail
            go_roundg (gk - 1)
            case measure => have := Hz.out; omega
            case rel =>
              refine ⟨rfl, j + 1, by have := Hz.out; omega, ?_⟩
              rw [List.replicate_succ', ← List.append_assoc, str_append]
end Go.Proofs.Ytkmkidbajmbigaa
