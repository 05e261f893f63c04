/- The table of the 64 characters: the closure that fills it, and the function that returns it. -/
import Derived.Test.YtkmkidbajmbigaaDoorRows
import Derived.Test.YtkmkidbajmbigaaDoorBase
import Derived.OneCell
namespace Go.Proofs.YtkmkidbajmbigaaDoor
open Go.ChangeShapes Go.WideShapes Go.ChangeAt Go.RowKit

def tab : List Nat := [65, 66, 67, 68, 69, 70, 71, 72, 73, 74, 75, 76, 77, 78, 79, 80, 81, 82, 83, 84, 85, 86, 87, 88, 89, 90, 97, 98, 99, 100, 101, 102, 103, 104, 105, 106, 107, 108, 109, 110, 111, 112, 113, 114, 115, 116, 117, 118, 119, 120, 121, 122, 48, 49, 50, 51, 52, 53, 54, 55, 56, 57, 43, 47]
/-- the first k characters stand -/
def part_ (k : Nat) : List Value := (List.range 64).map fun i => .int .u8 (if i < k then tab.getD i 0 else 0)
theorem part_length (k : Nat) : (part_ k).length = 64 := by simp [part_]
theorem part_at (k i : Nat) (hi : i < 64) (h : k ≤ i) : (part_ k)[i]? = some (.int .u8 0) := by
  simp only [part_, List.getElem?_map, List.getElem?_range hi, Option.map_some, if_neg (Nat.not_lt.2 h)]
theorem part_set (k : Nat) (hk : k < 64) : (part_ k).toArray.setIfInBounds k (.int .u8 (tab.getD k 0 : Nat)) = (part_ (k + 1)).toArray := by
  rw [List.setIfInBounds_toArray]
  congr 1
  apply List.ext_getElem?
  intro i
  rw [List.getElem?_set]
  simp only [part_, List.getElem?_map, List.length_map, List.length_range]
  by_cases hi : i < 64
  · by_cases h : k = i
    · subst h
      simp [hk]
    · rw [if_neg h, List.getElem?_range hi]
      have : (i < k + 1) = (i < k) := by rw [eq_iff_iff]; omega
      simp [this]
  · have : (List.range 64)[i]? = none := List.getElem?_eq_none (by simp; omega)
    rw [if_neg (by omega), this]
    rfl
theorem block_setCell {w : World} {b k : Nat} {cs : Array Value} {T : TypeId} {fr : Nat × Nat} (h : w.heap[b]? = some (.cells cs T fr)) (v : Value) :
    (w.setCell ⟨b, k, none⟩ v).heap[b]? = some (.cells (cs.setIfInBounds k v) T fr) := by
  simp [World.setCell, Array.getElem?_modify, h]
theorem block_setCell_other {w : World} {b : Nat} {o : Option Obj} (h : w.heap[b]? = o) (p : Addr) (hp : p.block ≠ b) (v : Value) : (w.setCell p v).heap[b]? = o := by
  rw [Below.heap_setCell _ _ _ _ (Ne.symm hp)]
  exact h
theorem frozen0 {w : World} {b : Nat} {cs : Array Value} {T : TypeId} (h : w.heap[b]? = some (.cells cs T (0, 0))) (k : Nat) : w.frozen? ⟨b, k, none⟩ = false := by
  simp [World.frozen?, h]
theorem cell_at {w : World} {b : Nat} {cs : List Value} {T : TypeId} {fr : Nat × Nat} (h : w.heap[b]? = some (.cells cs.toArray T fr)) {k : Nat} {v : Value} (hk : cs[k]? = some v) : w.cell? ⟨b, k, none⟩ = some v := by
  simp [World.cell?, h, hk]

set_option maxHeartbeats 1600000 in
theorem add_calls (bo bn k n c : Nat) (hbo : bo ≠ bn) (hk : k + n ≤ 64) (hn : 1 ≤ n) (hc : c + n ≤ 200) (ht : ∀ i, i < n → tab.getD (k + i) 0 = c + i) (w : World)
    (ho : w.heap[bo]? = some (.cells (part_ k).toArray 54 (0, 0))) (hv : w.heap[bn]? = some (.cells #[.int .i64 k] 3 (0, 0))) :
    Calls Tryd.prog 28 #[.int .u8 c, .int .u8 (c + n - 1 : Nat), .pointer (some ⟨bo, 0, none⟩), .pointer (some ⟨bn, 0, none⟩)] w fun e w' =>
      e = .returned (.tuple #[]) ∧ w'.heap[bo]? = some (.cells (part_ (k + n)).toArray 54 (0, 0)) ∧ w'.heap[bn]? = some (.cells #[.int .i64 (k + n : Nat)] 3 (0, 0)) ∧
      (∀ B, B ≤ bo → B ≤ bn → Below B w w') ∧ w'.heap.size = w.heap.size := by
  obtain ⟨to, hto⟩ : ∃ to, to = c + n - 1 := ⟨_, rfl⟩
  rw [← hto]
  have HT := Lib.hid hto
  have hto2 : to < 200 := by omega
  clear hto
  go_enter Tryd.func28, Tryd.ntmps28
  go_wp2_with fail
  go_loopw [6] (fun x w1 => ∃ i : Nat, i ≤ n ∧ x = .int .u8 (c + i : Nat) ∧ w1.heap[bo]? = some (.cells (part_ (k + i)).toArray 54 (0, 0)) ∧ w1.heap[bn]? = some (.cells #[.int .i64 (k + i : Nat)] 3 (0, 0)) ∧
      (∀ B, B ≤ bo → B ≤ bn → Below B w w1) ∧ w1.heap.size = w.heap.size) (fun x _ => c + n - (intOf x).toNat)
  case atStart => exact ⟨0, by omega, rfl, by simpa using ho, by simpa using hv, fun B _ _ => Below.refl B w, rfl⟩
  case round =>
    obtain ⟨i, hi, rfl, ho1, hv1, hb, hsz⟩ := hrel
    obtain ⟨m, hm⟩ : ∃ m, m = k + i := ⟨_, rfl⟩
    obtain ⟨x, hx⟩ : ∃ x, x = c + i := ⟨_, rfl⟩
    rw [← hm] at ho1 hv1
    rw [← hx]
    have Hm := Lib.hid hm
    have Hx := Lib.hid hx
    have hx2 : x ≤ 200 := by omega
    have hm2 : m ≤ 64 := by omega
    have htx : i < n → tab.getD m 0 = x := by rw [hm, hx]; exact ht i
    have hc1 : wr.cell? ⟨bn, 0, none⟩ = some (.int .i64 m) := cell_at (cs := [_]) hv1 rfl
    have hf1 := frozen0 hv1 0
    have hf2 := frozen0 ho1 m
    by_cases hlt : i < n
    · have hxt : x ≤ to := by have := HT.out; omega
      have hset := block_setCell (k := m) ho1 (.int .u8 x)
      rw [← htx hlt, part_set m (by omega), htx hlt] at hset
      have Hset := Lib.hid hset
      have hv2 := block_setCell_other hv1 ⟨bo, m, none⟩ hbo (.int .u8 x)
      have hc2 : (wr.setCell ⟨bo, m, none⟩ (.int .u8 x)).cell? ⟨bn, 0, none⟩ = some (.int .i64 m) := cell_at (cs := [_]) hv2 rfl
      have hf3 := frozen0 hv2 0
      have hcm : wr.cell? ⟨bo, m, none⟩ = some (.int .u8 0) := cell_at ho1 (part_at m m (by omega) (Nat.le_refl _))
      have Hv2 := Lib.hid hv2
      have h64 : m < 64 := by omega
      clear hset hv2 hm hx
      go_wp2
      go_roundw
      case rel =>
        have e1 := Hm.out
        have e2 := Hx.out
        refine ⟨i + 1, by omega, ?_, ?_, ?_, ?_, ?_⟩
        · rw [show c + (i + 1) = x + 1 from by omega]; go_num
        · rw [show k + (i + 1) = m + 1 from by omega]
          exact block_setCell_other Hset.out _ (Ne.symm hbo) _
        · rw [show k + (i + 1) = m + 1 from by omega]
          have := block_setCell (k := 0) Hv2.out (.int .i64 ((m : Int) + 1))
          rw [this]; rfl
        · intro B h1 h2
          exact ((hb B h1 h2).setCell (p := ⟨bo, m, none⟩) h1 _).setCell (p := ⟨bn, 0, none⟩) h2 _
        · simpa using hsz
      case measure => have e2 := Hx.out; simp [intOf]; omega
    · have hxt : to < x := by have := HT.out; omega
      have Hlt := Lib.hid hlt
      clear hlt hm hx
      go_wp2
      first | go_end0 | skip
      have e1 := Hm.out
      have : i = n := by have := Hlt.out; omega
      subst this
      rw [← e1]
      exact ⟨rfl, ho1, hv1, hb, hsz⟩

theorem blk_set {w : World} {b : Nat} {T : TypeId} {u : Value} (h : Blk w b T #[u]) (v : Value) : Blk (w.setCell ⟨b, 0, none⟩ v) b T #[v] := h.set_ 0 v
theorem one64 : ∀ u ∈ part_ 64, u.oneCell' = true := by
  intro u hu
  unfold part_ at hu
  obtain ⟨i, _, rfl⟩ := List.mem_map.1 hu
  rfl
def T64 : Array Value := (part_ 64).toArray
theorem sz64 : T64.size = 64 := by unfold T64; rw [List.size_toArray, part_length]

set_option maxHeartbeats 1600000 in
theorem alphabet_calls (w : World) : Calls Tryd.prog 19 #[] w fun e w' => e = .returned (.agg T64) ∧ Below w.heap.size w w' := by
  have t1 : True := trivial
  have t2 : True := trivial
  have t3 : True := trivial
  have t4 : True := trivial
  have t5 : True := trivial
  have t6 : True := trivial
  have t7 : True := trivial
  have t8 : True := trivial
  have t9 : True := trivial
  have t10 : True := trivial
  go_enter Tryd.func19, Tryd.ntmps19
  go_wp2_with (first
    | (have _t := t1; refine wpList_alloc rfl rfl 54 (part_ 0).toArray (by kernel_rfl) ?_; intro w1 hb1 hg1 hs1; have Hs1 := Lib.hid hs1; clear hs1; simp only [Act.put, List.setIfInBounds_toArray, List.set_cons_succ, List.set_cons_zero]; clear t1)
    | (have _t := t2; refine wpList_alloc rfl rfl 54 (part_ 0).toArray (by kernel_rfl) ?_; intro w2 hb2 hg2 hs2; have Hs2 := Lib.hid hs2; clear hs2; simp only [Act.put, List.setIfInBounds_toArray, List.set_cons_succ, List.set_cons_zero]; clear t2)
    | (have _t := t3; refine wpList_alloc rfl rfl 3 #[.int .i64 0] (by kernel_rfl) ?_; intro w3 hb3 hg3 hs3; have hc3 : w3.cell? ⟨w2.heap.size, 0, none⟩ = some (.int .i64 0) := hb3.cell 0; have hf3 := hb3.frozen 0; have Hs3 := Lib.hid hs3; clear hs3; simp only [Act.put, List.setIfInBounds_toArray, List.set_cons_succ, List.set_cons_zero]; clear t3)
    | (have _t := t4; go_at_call 28; go_must (refine (add_calls w1.heap.size w2.heap.size 0 26 65 (by have := Hs2.out; omega) (by decide) (by decide) (by decide) (by decide) _ ((hb2.grown hg3 nofun).far (by have := Hs2.out; simp; omega) _) (blk_set hb3 _)).mono ?_; rintro e w4 ⟨rfl, ho4, hv4, hb4, hz4⟩; have Hz4 := Lib.hid hz4; clear hz4; clear t4))
    | (have _t := t5; go_at_call 28; go_must (refine (add_calls w1.heap.size w2.heap.size 26 26 97 (by have := Hs2.out; omega) (by decide) (by decide) (by decide) (by decide) _ ho4 hv4).mono ?_; rintro e w5 ⟨rfl, ho5, hv5, hb5, hz5⟩; have Hz5 := Lib.hid hz5; clear hz5; clear t5))
    | (have _t := t6; go_at_call 28; go_must (refine (add_calls w1.heap.size w2.heap.size 52 10 48 (by have := Hs2.out; omega) (by decide) (by decide) (by decide) (by decide) _ ho5 hv5).mono ?_; rintro e w6 ⟨rfl, ho6, hv6, hb6, hz6⟩; have Hz6 := Lib.hid hz6; clear hz6; clear t6))
    | (have _t := t7; go_at_call 28; go_must (refine (add_calls w1.heap.size w2.heap.size 62 1 43 (by have := Hs2.out; omega) (by decide) (by decide) (by decide) (by decide) _ ho6 hv6).mono ?_; rintro e w7 ⟨rfl, ho7, hv7, hb7, hz7⟩; have Hz7 := Lib.hid hz7; clear hz7; clear t7))
    | (have _t := t8; go_at_call 28; go_must (refine (add_calls w1.heap.size w2.heap.size 63 1 47 (by have := Hs2.out; omega) (by decide) (by decide) (by decide) (by decide) _ ho7 hv7).mono ?_; rintro e w8 ⟨rfl, ho8, hv8, hb8, hz8⟩; have Hz8 := Lib.hid hz8; clear hz8; clear t8; have hb9 : Blk w8 w.heap.size 54 (part_ 0).toArray := by have s1 := Hs1.out; have s2 := Hs2.out; have b : Below w1.heap.size (w3.setCell ⟨w2.heap.size, 0, none⟩ (.int .i64 0)) w8 := ((((hb4 w1.heap.size (Nat.le_refl _) (by omega)).trans (hb5 w1.heap.size (Nat.le_refl _) (by omega))).trans (hb6 w1.heap.size (Nat.le_refl _) (by omega))).trans (hb7 w1.heap.size (Nat.le_refl _) (by omega))).trans (hb8 w1.heap.size (Nat.le_refl _) (by omega)); exact ((((hb1.grown hg2 nofun).grown hg3 nofun).far (by simp; omega) _).below b s1)))
    | (have _t := t9; refine wpList_load_row rfl 54 _ rfl w1.heap.size rfl 54 T64 (0, 0) _ ho8 Tryd.underlying54 rfl (by kernel_rfl) ?_; simp only [Act.put, List.setIfInBounds_toArray, List.set_cons_succ, List.set_cons_zero]; clear t9)
    | (have _t := t10; refine wpList_store_box rfl 54 _ _ rfl w.heap.size (part_ 64) rfl rfl hb9 (by rw [List.size_toArray, part_length, part_length]) (by rw [part_length]; kernel_rfl) one64 ?_; intro w9 h9 hg9 hs9; have Hs9 := Lib.hid hs9; clear hs9; simp only [Act.put, List.setIfInBounds_toArray, List.set_cons_succ, List.set_cons_zero]; clear t10))
  have s1 := Hs1.out; have s2 := Hs2.out
  have hz : w8.heap.size = w3.heap.size := by rw [Hz8.out, Hz7.out, Hz6.out, Hz5.out, Hz4.out]; simp
  have b : Below w.heap.size w w8 := (((((((((Below.refl _ w).grown hg1 (Nat.le_refl _) nofun).grown hg2 (by omega) nofun).grown hg3 (by omega) nofun).setCell (p := ⟨w2.heap.size, 0, none⟩) (by simp; omega) _).trans (hb4 w.heap.size (by omega) (by omega))).trans (hb5 w.heap.size (by omega) (by omega))).trans (hb6 w.heap.size (by omega) (by omega))).trans (hb7 w.heap.size (by omega) (by omega))).trans (hb8 w.heap.size (by omega) (by omega))
  refine bodyPost_ret (v := .agg T64) (results_cell_row (fn := Tryd.f19) (p := 0) rfl _ w9 w.heap.size 54 T64 (0, 0) _ rfl h9 Tryd.underlying54 rfl (by kernel_rfl)) rfl ⟨rfl, ?_⟩
  exact b.grown hg9 (by have := hg1.size; have := hg2.size; have := hg3.size; omega) (fun j hj => by injection hj with hj; omega)
end Go.Proofs.YtkmkidbajmbigaaDoor
