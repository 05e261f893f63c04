/- ascii.Unhex and msgid.Parse, walked. -/
import Derived.Test.YtafpndmoognjlaaMidP
import Derived.Deep.QuietTactic
import Derived.Laws.CopyOwn
namespace Go.Proofs.Ytafpndmoognjlaa
open Go.ChangeShapes Go.WideShapes Go.ChangeAt Go.RowKit

theorem below_drewN0 (w : World) (k B : Nat) : Below B w (w.drewN k) := ⟨rfl, rfl, rfl, Nat.le_refl _, fun _ _ => rfl⟩
theorem idx_calls (c : UInt8) (w : World) : Calls Try.prog 46 #[.string { data := #[48, 49, 50, 51, 52, 53, 54, 55, 56, 57, 97, 98, 99, 100, 101, 102] }, .int .u8 c.toNat] w fun e w' => e = .returned (.int .i64 (dig c)) ∧ w' = w := by
  refine (Try.strings_IndexByte _ (c.toNat : Int) w).mono ?_
  rintro e w' ⟨rfl, rfl⟩
  refine ⟨ret_int ?_, rfl⟩
  rw [← dig_index, Int.toNat_natCast]
  have : c.toNat.toUInt8 = c := by rw [Nat.toUInt8_eq]; exact UInt8.ofNat_toNat
  rw [this]
  rfl
theorem unhex1_calls (c : UInt8) (w : World) : Calls Try.prog 54 #[.int .u8 c.toNat] w fun e w' => e = .returned (.int .i64 (dig c)) ∧ w' = w := by
  go_enter Try.func54, Try.ntmps54
  go_wp2_with (go_at_call 46; refine (idx_calls c _).mono ?_; rintro e w' ⟨rfl, rfl⟩)
  go_ret
  exact ⟨rfl, rfl⟩
def unhP (l : List UInt8) (j : Nat) : UInt8 := UInt8.ofNat (16 * (dig (byteAt l (2 * j))).toNat + (dig (byteAt l (2 * j + 1))).toNat)
theorem info5 : ∃ i, Try.prog.info? 5 = some i ∧ i.zero = some (.int .u8 0) ∧ i.size = 1 ∧ i.bytes = 1 := byteInfo
set_option maxRecDepth 100000 in
set_option maxHeartbeats 1600000 in
theorem unhex_calls (l : List UInt8) (hl : l.length = 64) (hd : ∀ i, i < 64 → 0 ≤ dig (byteAt l (i))) (w : World) :
    Calls Try.prog 47 #[.string (str l)] w fun e w' => ∃ v, e = .returned (.tuple #[v, .int .i64 0]) ∧ w'.ownsRow w.heap.size 5 1 v 32 (idc ((List.range 32).map (unhP l))) ∧ Below w.heap.size w w' := by
  obtain ⟨i0, hi0, hz0, hz1, hz2⟩ := byteInfo
  have Hd := Lib.hid hd
  clear hd
  go_enter Try.func47, Try.ntmps47
  go_wp2_with fail
  go_loopw [4, 6] (fun v i wr => ∃ k : Nat, k ≤ 32 ∧ i = .int .i64 (2 * k : Nat) ∧ wr.ownsRow w.heap.size 5 1 v k (idc ((List.range k).map (unhP l))) ∧ Below w.heap.size w wr) (fun _ i _ => 64 - (intOf i).toNat)
  case atStart => exact ⟨0, by omega, rfl, World.ownsRow_nil _ _ _ _, Below.refl _ _⟩
  case round =>
    obtain ⟨k, hk, rfl, hown, hB⟩ := hrel
    by_cases hlt : k < 32
    · obtain ⟨x, hx⟩ := get_le (l := l) (k := 2 * k) (by omega)
      obtain ⟨y, hy⟩ := get_le (l := l) (k := 2 * k + 1) (by omega)
      obtain ⟨a, ha⟩ : ∃ a : Nat, dig x = a := ⟨(dig x).toNat, by have := Hd.out (2 * k) (by omega); rw [byteAt_of hx] at this; omega⟩
      obtain ⟨b, hb⟩ : ∃ b : Nat, dig y = b := ⟨(dig y).toNat, by have := Hd.out (2 * k + 1) (by omega); rw [byteAt_of hy] at this; omega⟩
      have ha16 : a < 16 := by have := dig_range x; omega
      have hb16 : b < 16 := by have := dig_range y; omega
      have hu : unhP l k = UInt8.ofNat (16 * a + b) := by unfold unhP; rw [byteAt_of hx, byteAt_of hy, ha, hb, Int.toNat_natCast, Int.toNat_natCast]
      have hor := i64_join a b 4 (by omega) (by omega)
      simp at hor
      have hs : idc ((List.range (k + 1)).map (unhP l)) = idc ((List.range k).map (unhP l)) ++ [.int .u8 ((a : Int) * 16 + b)] := by
        rw [List.range_succ, List.map_append, List.map_cons, List.map_nil, hu]
        simp [idc]; omega
      have Hs := Lib.hid hs
      obtain ⟨m, hm⟩ : ∃ m, m = 2 * k := ⟨_, rfl⟩
      rw [← hm] at hx hy ⊢
      have bx := byteAt_of hx
      have by_ := byteAt_of hy
      have Hm := Lib.hid hm
      have hm64 : m + 1 < 64 := by omega
      have s1 : IntKind.i64.wrap ((m : Int) + 1) = (m : Int) + 1 := IntWalk.i64_in _ (by omega)
      have i0' : (0 : Int) ≤ m := by omega
      have i1 : (m : Int) < 64 := by omega
      have i2 : (0 : Int) ≤ (m : Int) + 1 := by omega
      have i3 : (m : Int) + 1 < 64 := by omega
      have i4 : ((m : Int) + 1).toNat = m + 1 := by omega
      clear hu hs hm hx hy
      go_wp2_with fail
      refine wp_region_quiet_lit (by kernel_rfl) (by kernel_rfl) ?_
      repeat (go_big_quiet_step ((go_at_call 54; exact Calls.quiet_of_same (unhex1_calls _ _))))
      refine wpQuiet_nil ?_
      intro _ hw'
      obtain ⟨nq, hw''⟩ := hw'
      subst hw''
      have hown1 : (wr.drewN nq).ownsRow w.heap.size 5 1 _ k (idc ((List.range k).map (unhP l))) := hown
      have hB1 : Below w.heap.size w (wr.drewN nq) := hB.trans (below_drewN0 _ _ _)
      clear hown hB
      have t1 : True := trivial
      go_wp2_with (first
        | (have _t := t1; refine wpList_append_own _ rfl _ _ 81 rfl w.heap.size 5 i0 (.int .u8 0) 1 1 Try.underlying81 hi0 hz0 hz1 hz2 rfl (by decide) _ _ _ rfl (hown1.alloc _) ⟨wr.heap.size, 0, none⟩ 1 1 [.int .u8 ((a : Int) * 16 + b)] rfl rfl (cells_new _ _ _) (by simp [Value.oneCell']) (by unfold maxLen; omega) (by omega) (by have := hB1.size; simp at this ⊢; omega) ?_; intro v5 w5 hown5 hgrow5 _; clear t1))
      have hb5 : Below w.heap.size w w5 := (hB1.alloc hB1.size _).grown hgrow5 (by have := hB1.size; simp at this ⊢; omega) (fun k hk => (hown1.lt k hk).1)
      go_roundw
      case rel => exact ⟨k + 1, by omega, by rw [show 2 * (k + 1) = 2 * k + 1 + 1 from by omega, ← Hm.out]; go_num, by rw [Hs.out]; exact hown5, hb5⟩
      case measure => have := Hm.out; simp [intOf]; omega
    · have e : k = 32 := by omega
      subst e
      go_wp2
      go_ret2
      exact ⟨_, rfl, hown, hB⟩
end Go.Proofs.Ytafpndmoognjlaa
