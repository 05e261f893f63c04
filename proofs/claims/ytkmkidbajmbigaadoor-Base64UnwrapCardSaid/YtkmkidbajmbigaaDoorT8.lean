/- Encode, Valid, the reference's Size, and known, walked. -/
import Derived.Test.YtkmkidbajmbigaaDoorT7
import Derived.Test.YtkmkidbajmbigaaDoorP2
import Derived.Laws.IdiomStrings
namespace Go.Proofs.YtkmkidbajmbigaaDoor
open Go.ChangeShapes Go.WideShapes Go.ChangeAt Go.RowKit

theorem run_str_row (w : World) (A : Option Addr) (c : Nat) (l : List UInt8) (h : Row w A (idc l)) :
    (convert 31 9 (.slice A l.length c)).run Tryd.prog w = .ok (.string (str l)) w := by
  rcases A with _ | ad
  · have : idc l = [] := h.none
    have hl : l = [] := List.eq_nil_of_length_eq_zero (by rw [← idc_length, this]; rfl)
    subst hl
    rw [run_convert_bytes_string w _ _ 5 none _ c Tryd.underlying31 Tryd.underlying5 Tryd.underlying9]
    rfl
  · refine run_convert_bytes_back w _ _ 5 ad c l Tryd.underlying31 Tryd.underlying5 Tryd.underlying9 (fun j hj => ?_)
    rcases h with h | ⟨ad', e, h⟩
    · have : (idc l).length = 0 := by rw [h]; rfl
      rw [idc_length] at this; omega
    · injection e with e
      subst e
      exact h j _ (by simp [idc, hj])
theorem str_inj {a b : List UInt8} : str a = str b ↔ a = b := by
  constructor
  · intro h
    have h2 := congrArg (fun s => s.data.toList) h
    simpa [str] using h2
  · exact fun h => by rw [h]

theorem bencode_calls (A : Option Addr) (n c : Nat) (l : List UInt8) (hl : l.length = n) (hn : n ≤ 100000) (w : World) (hr : Row w A (idc l)) :
    Calls Tryd.prog 7 #[.slice A n c] w fun e w' => e = .returned (.tuple #[.string (str (encS l)), .int .i64 0]) ∧ Below w.heap.size w w' := by
  go_enter Tryd.func7, Tryd.ntmps7
  go_wp2_with (go_at_call 12; go_must (refine (encode_calls A n c l hl hn _ hr).mono ?_; rintro e w1 ⟨rfl, hb1⟩))
  go_ret2
  exact ⟨rfl, hb1⟩
theorem freeze_new (w : World) (e : TypeId) (C : Array Value) (n : Nat) : (w.alloc (.cells C e)).freeze ⟨w.heap.size, n, none⟩ 1 = w.alloc (.cells C e (n, n + 1)) := by
  have hm : ∀ (a : Array Obj) (x : Obj) (f : Obj → Obj), (a.push x).modify a.size f = a.push (f x) := by
    intro a x f
    apply Array.ext
    · simp
    · intro i h1 h2
      simp only [Array.getElem_modify, Array.getElem_push]
      by_cases h : a.size = i
      · subst h
        simp
      · have hi : i < a.size := by simp at h1; omega
        simp [h, hi]
  unfold World.freeze
  rw [if_neg (by decide)]
  show ({ w.alloc (.cells C e) with heap := (w.heap.push (.cells C e)).modify w.heap.size _ } : World) = _
  rw [hm]
  rfl
/-- the conversion of a literal's bytes marks the block behind its end -/
theorem run_conv_mark (w : World) (C : Array Value) (n c : Nat) : (convert 31 31 (.slice (some ⟨w.heap.size, 0, none⟩) n c)).run Tryd.prog (w.alloc (.cells C 5)) =
    .ok (.slice (some ⟨w.heap.size, 0, none⟩) n c) (w.alloc (.cells C 5 (C.size, C.size + 1))) := by
  have hsh : (w.alloc (.cells C 5)).shape? w.heap.size = some (5, C.size) := by
    unfold World.shape?
    rw [heap_alloc_new]
  have h := freeze_new w 5 C C.size
  simp only [convert, Sem.run_bind, run_underlying Tryd.underlying31, run_underlying Tryd.underlying5, Result.andThen_ok]
  simp [markStringish, hsh, h]
theorem Row.new_mark (w : World) (cs : List Value) (e : TypeId) (fr : Nat × Nat) : Row (w.alloc (.cells cs.toArray e fr)) (some ⟨w.heap.size, 0, Option.none⟩) cs := by
  refine .inr ⟨_, rfl, fun j u hu => ?_⟩
  rw [Addr.add_mid, cell_of_row _ _ _ _ _ _ (heap_alloc_new w _)]
  simpa using hu
set_option maxRecDepth 100000 in
theorem known_calls (w : World) : Calls Tryd.prog 4 #[] w fun e w' => e = .returned (.bool true) ∧ Below w.heap.size w w' := by
  have HE : Hid (encS [102, 111] = [90, 109, 56, 61]) := Lib.hid (by decide +kernel)
  have HD : Hid (decS [90, 103, 61, 61] = ([102], 0, 0)) := Lib.hid (by decide +kernel)
  have hself := run_conv_mark w #[.int .u8 102, .int .u8 111] 2 2
  have hs1 : ((str [90, 109, 56, 61]).toList == [90, 109, 56, 61]) = true := by decide +kernel
  have hs2 : ((str [102]).toList == [102]) = true := by decide +kernel
  go_enter Tryd.func4, Tryd.ntmps4
  go_wp2_with (first
    | (go_at_call 7; go_must (refine (bencode_calls (some ⟨w.heap.size, 0, none⟩) 2 2 [102, 111] rfl (by omega) _ (Row.new_mark w _ _ _)).mono ?_; rw [HE.out]; rintro e w1 ⟨rfl, hb1⟩))
    | (go_at_call 8; go_must (refine (decode_calls [90, 103, 61, 61] (by decide) _).mono ?_; rw [HD.out]; rintro e w2 ⟨v, rfl, hown, hb2⟩; obtain ⟨A, c, rfl, h1, h2, h3, h4⟩ := Row.of_own hown; have hconv : (convert 31 9 (.slice A 1 c)).run Tryd.prog w2 = .ok (.string (str [102])) w2 := run_str_row w2 A c [102] h3)))
  go_ret
  exact ⟨rfl, (((Below.refl _ w).alloc (Nat.le_refl _) _).trans (hb1.mono (by simp))).trans (hb2.mono (by have := hb1.size; simp at this; omega))⟩
end Go.Proofs.YtkmkidbajmbigaaDoor
