/- The plain law of the round trip: the tokens of a text, and which text is parsed as which list. -/
import Derived.Test.YtafpndmoognjlaaPa1
import Derived.Test.YtafpndmoognjlaaPr1
import Derived.Test.YtafpndmoognjlaaC2
namespace Go.Proofs.Ytafpndmoognjlaa
open Go.ChangeShapes Go.WideShapes Go.ChangeAt Go.RowKit
/-- the tokens of a text, some bytes of a token having been read -/
def wr : List UInt8 → List UInt8 → List (List UInt8)
  | cur, [] => if cur = [] then [] else [cur]
  | cur, c :: t => if blankB c then (if cur = [] then wr [] t else cur :: wr [] t) else wr (cur ++ [c]) t
def wordsB (s : List UInt8) : List (List UInt8) := wr [] s
theorem words_blank {c : UInt8} (h : blankB c = true) (t : List UInt8) : wordsB (c :: t) = wordsB t := by
  unfold wordsB; rw [wr, if_pos h, if_pos rfl]
theorem wr_tok : ∀ (u cur : List UInt8) (r : List UInt8), (∀ c ∈ u, blankB c = false) → wr cur (u ++ r) = wr (cur ++ u) r
  | [], cur, r, _ => by simp
  | c :: u, cur, r, h => by
    rw [List.cons_append, wr, if_neg (by simp [h c (List.mem_cons_self ..)]), wr_tok u _ r (fun x hx => h x (List.mem_cons_of_mem _ hx))]
    simp
theorem words_tok {u r : List UInt8} (h : ∀ c ∈ u, blankB c = false) (hu : u ≠ []) (hr : r = [] ∨ ∃ c t, r = c :: t ∧ blankB c = true) : wordsB (u ++ r) = u :: wordsB r := by
  unfold wordsB
  rw [wr_tok u [] r h, List.nil_append]
  rcases hr with rfl | ⟨c, t, rfl, hc⟩
  · rw [wr, if_neg hu]; rfl
  · rw [wr, if_pos hc, if_neg hu, wr, if_pos hc, if_pos rfl]
theorem hexs_plain : ∀ v, v < 16 → blankB (byteAt hexs v) = false := by decide +kernel
theorem hexL_plain (x : List UInt8) : ∀ c ∈ hexL x, blankB c = false := by
  intro c hc
  unfold hexL at hc
  obtain ⟨b, _, hb⟩ := List.mem_flatMap.1 hc
  have := b.toNat_lt
  simp only [hexB, List.mem_cons, List.not_mem_nil, or_false] at hb
  rcases hb with rfl | rfl
  · exact hexs_plain _ (by omega)
  · exact hexs_plain _ (by omega)
theorem midL_plain (x : List UInt8) : ∀ c ∈ midL x, blankB c = false := by
  intro c hc
  unfold midL at hc
  rcases List.mem_append.1 hc with hc | hc
  · rcases List.mem_append.1 hc with hc | hc
    · rw [List.mem_singleton.1 hc]; decide
    · exact hexL_plain x c hc
  · have : ∀ c ∈ ([64, 104, 97, 115, 104, 62] : List UInt8), blankB c = false := by decide
    exact this c hc
theorem midL_ne (x : List UInt8) : midL x ≠ [] := by simp [midL]
theorem words_tail : ∀ (r : List (List UInt8)) (x : List UInt8), wordsB (midL x ++ Lib.joinTail [32] (r.map midL)) = midL x :: r.map midL
  | [], x => by
    have := words_tok (r := []) (midL_plain x) (midL_ne x) (.inl rfl)
    simpa [Lib.joinTail, wordsB, wr] using this
  | y :: r, x => by
    have e : Lib.joinTail [32] ((y :: r).map midL) = 32 :: (midL y ++ Lib.joinTail [32] (r.map midL)) := by simp [Lib.joinTail]
    rw [e, words_tok (midL_plain x) (midL_ne x) (.inr ⟨_, _, rfl, by decide⟩), words_blank (by decide), words_tail r y]
    rfl
theorem words_link (ls : List (List UInt8)) : wordsB (linkL ls) = ls.map midL := by
  cases ls with
  | nil => rfl
  | cons x r =>
    unfold linkL
    rw [List.map_cons, Lib.join_cons]
    exact words_tail r x
theorem tok_ne {l : List UInt8} {i : Nat} {x : UInt8} (h : l[i]? = some x) (hb : blankB x = false) : i < tokEnd l i := by
  rw [tokEnd_on h hb]
  have := le_tokEnd l (i + 1)
  omega
theorem drop_tok (l : List UInt8) (i : Nat) : l.drop i = tok l i ++ l.drop (tokEnd l i) := by
  unfold tok
  have h : l.drop (tokEnd l i) = (l.drop i).drop (tokEnd l i - i) := by
    rw [List.drop_drop]; congr 1; have := le_tokEnd l i; omega
  rw [h, List.take_append_drop]
theorem tok_eq (l : List UInt8) (i : Nat) : tok l i = (l.drop i).takeWhile fun c => !blankB c := by
  unfold tok tokEnd
  rw [Nat.add_sub_cancel_left]
  exact (List.prefix_iff_eq_take.1 (List.takeWhile_prefix _)).symm
theorem tok_plain (l : List UInt8) (i : Nat) : ∀ c ∈ tok l i, blankB c = false := by
  intro c hc
  rw [tok_eq] at hc
  have := List.all_takeWhile (l := l.drop i) (p := fun c => !blankB c)
  rw [List.all_eq_true] at this
  simpa using this c hc
theorem dropWhile_head {α : Type} (p : α → Bool) : ∀ s : List α, s.dropWhile p = [] ∨ ∃ c t, s.dropWhile p = c :: t ∧ p c = false
  | [] => .inl rfl
  | a :: s => by
    cases h : p a with
    | true => rw [List.dropWhile_cons_of_pos h]; exact dropWhile_head p s
    | false => rw [List.dropWhile_cons_of_neg (by simp [h])]; exact .inr ⟨a, s, rfl, h⟩
theorem after_tok (l : List UInt8) (i : Nat) : l.drop (tokEnd l i) = [] ∨ ∃ c t, l.drop (tokEnd l i) = c :: t ∧ blankB c = true := by
  have e : l.drop (tokEnd l i) = (l.drop i).dropWhile fun c => !blankB c := by
    have h1 := drop_tok l i
    rw [tok_eq] at h1
    have h2 := List.takeWhile_append_dropWhile (p := fun c => !blankB c) (l := l.drop i)
    exact (List.append_cancel_left (h2.trans h1)).symm
  rw [e]
  rcases dropWhile_head (fun c => !blankB c) (l.drop i) with h | ⟨c, t, h, hc⟩
  · exact .inl h
  · exact .inr ⟨c, t, h, by simpa using hc⟩
theorem addE_ok {out : List (List UInt8)} {x : List UInt8} (h1 : x ≠ zid) (h2 : x ∉ out) : addE out x = 0 := addE_zero.2 ⟨h1, h2⟩
theorem pgo_words (l : List UInt8) : ∀ (f i : Nat) (out rest : List (List UInt8)), l.length - i ≤ f → wordsB (l.drop i) = rest.map midL → (∀ x ∈ rest, x.length = 32) → (∀ x ∈ rest, x ≠ zid) →
    (out ++ rest).Nodup → out.length + rest.length ≤ 20 → pgo l f i out = (out ++ rest, 0, 0)
  | 0, i, out, rest, hf, hw, _, _, _, _ => by
    rw [List.drop_eq_nil_of_le (by omega)] at hw
    have : rest = [] := by
      cases rest with
      | nil => rfl
      | cons a r => simp [wordsB, wr] at hw
    subst this
    simp [pgo]
  | f + 1, i, out, rest, hf, hw, h32, hz, hn, hl => by
    rcases Nat.lt_or_ge i l.length with hi | hi
    · obtain ⟨x, hx⟩ := get_le hi
      have hd : l.drop i = x :: l.drop (i + 1) := by
        rw [List.drop_eq_getElem_cons hi]
        rw [List.getElem?_eq_getElem hi] at hx
        injection hx with hx
        rw [hx]
      by_cases hb : blankB x = true
      · rw [pgo_blank hx hb]
        rw [hd, words_blank hb] at hw
        exact pgo_words l f (i + 1) out rest (by omega) hw h32 hz hn hl
      · have hb : blankB x = false := by simpa using hb
        have hlt := tok_ne hx hb
        have hne : tok l i ≠ [] := by
          rw [tok_eq, hd, List.takeWhile_cons_of_pos (by simp [hb])]; simp
        rw [drop_tok l i, words_tok (tok_plain l i) hne (after_tok l i)] at hw
        cases rest with
        | nil => simp at hw
        | cons y r =>
          rw [List.map_cons, List.cons.injEq] at hw
          obtain ⟨hw1, hw2⟩ := hw
          have hy := h32 y (List.mem_cons_self ..)
          have hyo : y ∉ out := by
            rw [List.nodup_append] at hn
            intro h
            exact hn.2.2 y h y (List.mem_cons_self ..) rfl
          simp only [List.length_cons] at hl
          rw [pgo_tok hx hb, if_neg (by omega), hw1, okM_mid y hy, if_neg (by simp), unh_mid y hy, addE_ok (hz y (List.mem_cons_self ..)) hyo, if_neg (by simp)]
          rw [pgo_words l f (tokEnd l i) (out ++ [y]) r (by omega) hw2 (fun x h => h32 x (List.mem_cons_of_mem _ h)) (fun x h => hz x (List.mem_cons_of_mem _ h)) (by simpa using hn) (by simp; omega)]
          simp
    · rw [List.drop_eq_nil_of_le hi] at hw
      have : rest = [] := by
        cases rest with
        | nil => rfl
        | cons a r => simp [wordsB, wr] at hw
      subst this
      rw [pgo_end hi]; simp
theorem parS_words {l : List UInt8} {ls : List (List UInt8)} (hw : wordsB l = ls.map midL) (h32 : ∀ x ∈ ls, x.length = 32) (hc : chk ls = 0) : parS l = (ls, 0, 0) := by
  obtain ⟨h1, h2, h3⟩ := chk_zero.1 hc
  have := pgo_words l l.length 0 [] ls (by omega) (by simpa using hw) h32 h2 (by simpa using h3) (by simpa using h1)
  simpa [parS] using this
/-! the text as a run of an automaton -/
def stp (s : List (List UInt8) × List UInt8) (c : UInt8) : List (List UInt8) × List UInt8 :=
  if blankB c then (if s.2 = [] then s else (s.1 ++ [s.2], [])) else (s.1, s.2 ++ [c])
def runW (t : List UInt8) : List (List UInt8) × List UInt8 := t.foldl stp ([], [])
def finW (s : List (List UInt8) × List UInt8) : List (List UInt8) := s.1 ++ (if s.2 = [] then [] else [s.2])
theorem fin_run : ∀ (t : List UInt8) (s : List (List UInt8) × List UInt8), finW (t.foldl stp s) = s.1 ++ wr s.2 t
  | [], s => by by_cases hs : s.2 = [] <;> simp [finW, wr, hs]
  | c :: t, s => by
    rw [List.foldl_cons, fin_run t, wr]
    unfold stp
    by_cases hb : blankB c = true
    · rw [if_pos hb, if_pos hb]
      by_cases hs : s.2 = []
      · rw [if_pos hs, if_pos hs, hs]
      · rw [if_neg hs, if_neg hs]; simp
    · rw [if_neg hb, if_neg hb]
theorem words_run (t : List UInt8) : wordsB t = finW (runW t) := by
  unfold runW wordsB
  rw [fin_run]; rfl
theorem run_snoc (t : List UInt8) (c : UInt8) : runW (t ++ [c]) = stp (runW t) c := by unfold runW; rw [List.foldl_append]; rfl
theorem stp_twice (s : List (List UInt8) × List UInt8) {c d : UInt8} (hc : blankB c = true) (hd : blankB d = true) : stp (stp s c) d = stp s c := by
  have h : (stp s c).2 = [] := by
    unfold stp
    rw [if_pos hc]
    split
    · assumption
    · rfl
  generalize stp s c = u at h
  unfold stp
  rw [if_pos hd, if_pos h]
theorem fin_blank (s : List (List UInt8) × List UInt8) {c : UInt8} (hc : blankB c = true) : finW (stp s c) = finW s := by
  unfold stp
  rw [if_pos hc]
  by_cases hs : s.2 = []
  · rw [if_pos hs]
  · rw [if_neg hs]; simp [finW, hs]
theorem words_around {t u : List UInt8} (h : runW t = runW u) : wordsB ([32] ++ t ++ [9]) = wordsB u := by
  rw [List.append_assoc, List.singleton_append, words_blank (by decide), words_run, run_snoc, fin_blank _ (by decide), h, words_run]
end Go.Proofs.Ytafpndmoognjlaa
