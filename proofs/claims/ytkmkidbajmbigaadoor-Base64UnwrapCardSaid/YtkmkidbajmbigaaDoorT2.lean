/- The closure that writes a character, and encode. -/
import Derived.Test.YtkmkidbajmbigaaDoorT1
import Derived.Test.YtkmkidbajmbigaaDoorBldByte
import Derived.Test.YtkmkidbajmbigaaDoorBits
namespace Go.Proofs.YtkmkidbajmbigaaDoor
open Go.ChangeShapes Go.WideShapes Go.ChangeAt Go.RowKit

def chr (v : Nat) : UInt8 := UInt8.ofNat (tab.getD v 0)
theorem T64_at (v : Nat) (hv : v < 64) : T64[v]? = some (.int .u8 (chr v).toNat) := by
  have h : ∀ v, v < 64 → tab.getD v 0 = (chr v).toNat := by decide +kernel
  simp only [T64, part_, List.getElem?_toArray, List.getElem?_map, List.getElem?_range hv, Option.map_some, if_pos hv, h v hv]

theorem blk_kept {w w' : World} {b g : Nat} {t : TypeId} {cs : Array Value} (hO : Lib.OthersKept 5 (some b) w w') (h : Blk w g t cs) (hne : g ≠ b) (ht : t ≠ 5) : Blk w' g t cs :=
  hO g _ h (fun e => hne (by injection e)) (fun c fz e => ht (by injection e))

theorem bldAt_far {B b g : Nat} {p : Value} {bs : List Value} {w : World} {t : TypeId} {cs : Array Value} (h : Lib.BuilderAtF 47 5 B b p bs w) (hg : Blk w g t cs) (ht : t ≠ 5) (hne : g ≠ b) (o : Nat) (u : Value) : Lib.BuilderAtF 47 5 B b p bs (w.setCell ⟨g, o, none⟩ u) := by
  obtain ⟨hB, v, hb, hown, hnb⟩ := h
  refine ⟨hB, v, Eq.trans (Below.heap_setCell _ _ _ _ (Ne.symm hne)) hb, ?_, hnb⟩
  exact hown.kept (row := some g) ⟨rfl, rfl, rfl, by simp [World.setCell], fun k _ hk => Below.heap_setCell _ _ _ _ (fun e => hk (by simp [e]))⟩ (Or.inr (Lib.ownBlock_neF hown hg ht))
theorem bld_far {B b g : Nat} {bs : List Value} {w : World} {t : TypeId} {cs : Array Value} (h : BldF B b bs w) (hg : Blk w g t cs) (ht : t ≠ 5) (hne : g ≠ b) (o : Nat) (u : Value) : BldF B b bs (w.setCell ⟨g, o, none⟩ u) :=
  h.elim (fun x => .inl (bldAt_far x hg ht hne o u)) (fun x => .inr (bldAt_far x hg ht hne o u))

set_option maxHeartbeats 1600000 in
theorem emit_calls (B bc b ba bb bits cnt : Nat) (o : List UInt8) (hB : B ≤ bc ∧ B ≤ ba ∧ B ≤ bb) (hne : bc ≠ b ∧ bc ≠ ba ∧ bc ≠ bb ∧ b ≠ ba ∧ b ≠ bb ∧ ba ≠ bb) (h6 : cnt = 6 ∨ cnt = 8 ∨ cnt = 10 ∨ cnt = 12) (hbits : bits < 2 ^ 13) (ho : o.length ≤ 1000000) (w : World)
    (hBw : B ≤ w.heap.size)
    (hb : BldF B b (idc o) w) (hcb : Blk w bc 3 #[.int .i64 cnt]) (hbb : Blk w bb 3 #[.int .i64 bits]) (hab : Blk w ba 54 T64) :
    Calls Tryd.prog 20 #[.pointer (some ⟨bc, 0, none⟩), .pointer (some ⟨b, 0, none⟩), .pointer (some ⟨ba, 0, none⟩), .pointer (some ⟨bb, 0, none⟩)] w fun e w' =>
      e = .returned (.tuple #[]) ∧ BldF B b (idc (o ++ [chr (bits / 2 ^ (cnt - 6) % 64)])) w' ∧ Blk w' bc 3 #[.int .i64 (cnt - 6 : Nat)] ∧ Blk w' bb 3 #[.int .i64 (bits % 2 ^ (cnt - 6) : Nat)] ∧ Blk w' ba 54 T64 ∧ Below B w w' := by
  obtain ⟨k, hk, hk8⟩ : ∃ k, cnt = k + 6 ∧ (k = 0 ∨ k = 2 ∨ k = 4 ∨ k = 6) := ⟨cnt - 6, by omega, by omega⟩
  subst hk
  rw [Nat.add_sub_cancel]
  clear h6
  obtain ⟨v, hv⟩ : ∃ v, v = bits / 2 ^ k % 64 := ⟨_, rfl⟩
  obtain ⟨r, hr⟩ : ∃ r, r = bits % 2 ^ k := ⟨_, rfl⟩
  rw [← hv, ← hr]
  have hv64 : v < 64 := by omega
  have hand := i64_mask (bits / 2 ^ k) 6 (Nat.lt_of_le_of_lt (Nat.div_le_self _ _) (by omega)) (by omega)
  rw [show 2 ^ 6 = 64 from rfl, ← hv] at hand
  have hmask := i64_mask bits k (by omega) (by omega)
  rw [← hr] at hmask
  have hT := T64_at v hv64
  have Hv := Lib.hid hv
  have Hr := Lib.hid hr
  clear hv hr
  have c1 : w.cell? ⟨bc, 0, none⟩ = some (.int .i64 (k + 6 : Nat)) := hcb.cell 0
  have f1 := hcb.frozen 0
  have hcb1 := blk_set hcb (.int .i64 k)
  have hbb1 := hbb.far (p := ⟨bc, 0, none⟩) (Ne.symm hne.2.2.1) (.int .i64 k)
  have hab1 := hab.far (p := ⟨bc, 0, none⟩) (Ne.symm hne.2.1) (.int .i64 k)
  have c2 : (w.setCell ⟨bc, 0, none⟩ (.int .i64 k)).cell? ⟨bb, 0, none⟩ = some (.int .i64 bits) := hbb1.cell 0
  have c3 : (w.setCell ⟨bc, 0, none⟩ (.int .i64 k)).cell? ⟨bc, 0, none⟩ = some (.int .i64 k) := hcb1.cell 0
  have c4 : (w.setCell ⟨bc, 0, none⟩ (.int .i64 k)).cell? ⟨ba, v, none⟩ = some (.int .u8 (chr v).toNat) := (hab1.cell v).trans hT
  have c5 : w.cell? ⟨bb, 0, none⟩ = some (.int .i64 bits) := hbb.cell 0
  have c6 : w.cell? ⟨ba, v, none⟩ = some (.int .u8 (chr v).toNat) := (hab.cell v).trans hT
  have hb1 : BldF B b (idc o) (w.setCell ⟨bc, 0, none⟩ (.int .i64 k))  := bld_far hb hcb (by decide) hne.1 _ _
  have Hcb := Lib.hid hcb1
  have Hbb := Lib.hid hbb1
  have Hab := Lib.hid hab1
  clear hcb hbb hab hcb1 hbb1 hab1
  rcases hk8 with rfl | rfl | rfl | rfl
  all_goals
    have hand2 := hand
    have hmask2 := hmask
    simp at hand2 hmask2
    clear hand hmask hT
    go_enter Tryd.func20, Tryd.ntmps20
    go_wp2_with (go_at_call 21; go_must (refine (writeByte_calls B b _ _ _ hb1 (by rw [idc_length]; omega) (by simpa using hBw)).mono ?_; rintro e w1 ⟨rfl, hb2, hB2, hO2⟩))
  all_goals
    have h1 := blk_kept hO2 Hcb.out hne.1 (by decide)
    have h2 := blk_kept hO2 Hbb.out (Ne.symm hne.2.2.2.2.1) (by decide)
    have h3 := blk_kept hO2 Hab.out (Ne.symm hne.2.2.2.1) (by decide)
    have d1 := h1.cell 0
    have d2 := h2.cell 0
    have g2 := h2.frozen 0
    simp at d1 d2
    go_region
  all_goals
    go_end0
    refine ⟨rfl, ?_, (h1.far hne.2.2.1 _).drew, (blk_set h2 _).drew, (h3.far hne.2.2.2.2.2 _).drew, ?_⟩
    · have : idc (o ++ [chr v]) = idc o ++ [.int .u8 (chr v).toNat] := by simp [idc]
      rw [this]
      exact bld_far (.inr hb2) h2 (by decide) (Ne.symm hne.2.2.2.2.1) _ _
    · exact ((((Below.refl B w).setCell (p := ⟨bc, 0, none⟩) hB.1 _).trans hB2).setCell (p := ⟨bb, 0, none⟩) hB.2.2 _).drew
end Go.Proofs.YtkmkidbajmbigaaDoor
