/- Strings as lists of bytes: the word 'ust' and what the walk makes of it. -/
import Derived.Test.YtkmkidbajmbigaaDoorBase
namespace Go.Proofs.YtkmkidbajmbigaaDoor
open Go Go.ChangeShapes Go.WideShapes Go.ChangeAt Go.RowKit
def ust (l : List UInt8) : ByteArray := ⟨l.toArray⟩
@[go_sem] theorem ust_size (l : List UInt8) : (ust l).size = l.length := by simp [ust, ByteArray.size]
@[go_sem] theorem ust_append (a b : List UInt8) : ust a ++ ust b = ust (a ++ b) := by
  apply ByteArray.ext
  apply Array.toList_inj.1
  simp [ust]
@[go_sem] theorem mk_append (a b : List UInt8) : ByteArray.mk (List.toArray a) ++ ust b = ust (a ++ b) := ust_append a b
@[go_sem] theorem str_append_mk (a b : List UInt8) : ust a ++ ByteArray.mk (List.toArray b) = ust (a ++ b) := ust_append a b
theorem str_mk (l : List UInt8) : ByteArray.mk (List.toArray l) = ust l := rfl
theorem ust_inj {a b : List UInt8} (h : ust a = ust b) : a = b := by
  have := congrArg (fun x => x.data.toList) h
  simpa [ust] using this
@[go_sem] theorem str_toList (l : List UInt8) : (ust l).toList = l := by
  unfold ust; exact ByteArray.toList_mk l
@[go_sem] theorem str_data (l : List UInt8) : (ust l).data.toList = l := by simp [ust]
@[go_sem] theorem str_extract (l : List UInt8) (a b : Nat) : (ust l).extract a b = ust ((l.drop a).take (b - a)) := by
  apply ByteArray.ext
  apply Array.toList_inj.1
  simp only [ust, ByteArray.data_extract, Array.toList_extract, List.extract_eq_take_drop]
@[go_sem] theorem mk_extract (l : List UInt8) (a b : Nat) : (ByteArray.mk (List.toArray l)).extract a b = ust ((l.drop a).take (b - a)) := str_extract l a b
theorem str_of (s : ByteArray) : s = ust s.data.toList := rfl
/-- the byte at a place -/
def byteAt (l : List UInt8) (i : Nat) : UInt8 := l[i]?.getD 0
theorem byteAt_of {l : List UInt8} {i : Nat} {x : UInt8} (h : l[i]? = some x) : byteAt l i = x := by unfold byteAt; rw [h]; rfl
theorem byteAt_some {l : List UInt8} {i : Nat} (h : i < l.length) : l[i]? = some (byteAt l i) := by unfold byteAt; rw [List.getElem?_eq_getElem h]; rfl
theorem byteAt_get {l : List UInt8} {i : Nat} (h : i < l.length) : byteAt l i = l[i] := byteAt_of (List.getElem?_eq_getElem h)
@[go_sem high] theorem run_index_str {P : Program} (w : World) (t : TypeId) (l : List UInt8) (k : IntKind) (i : Int) (h : P.underlying t = some .string) :
    (Instr.index t (.string (ust l)) (.int k i)).run P w = if 0 ≤ i ∧ i < l.length then .ok (.int .u8 (byteAt l i.toNat).toNat) w else (boundsPanic k i l.length .index).run P w := by
  rw [run_index_string w t (ust l) k i h]
  by_cases hi : 0 ≤ i ∧ i < l.length
  · rw [if_pos hi, dif_pos (by rw [ust_size]; exact hi)]
    have h2 : i.toNat < l.length := by omega
    rw [byteAt_get h2]
    rfl
  · rw [if_neg hi, dif_neg (by rw [ust_size]; exact hi), ust_size]
@[go_sem high] theorem run_index_mk {P : Program} (w : World) (t : TypeId) (l : List UInt8) (k : IntKind) (i : Int) (h : P.underlying t = some .string) :
    (Instr.index t (.string (ByteArray.mk (List.toArray l))) (.int k i)).run P w = if 0 ≤ i ∧ i < l.length then .ok (.int .u8 (byteAt l i.toNat).toNat) w else (boundsPanic k i l.length .index).run P w := run_index_str w t l k i h
theorem get_le {l : List UInt8} {k : Nat} (h : k < l.length) : ∃ x, l[k]? = some x := ⟨_, List.getElem?_eq_getElem h⟩
theorem Blk.row {w : World} {g : Nat} {t : TypeId} {cs : List Value} (h : Blk w g t cs.toArray) : Row w (some ⟨g, 0, none⟩) cs :=
  .inr ⟨_, rfl, fun j u hu => by rw [Addr.add_mid, h.cell]; simpa using hu⟩
theorem below_of_none {w w' : World} (h : w.grownBy w' none) : Below w.heap.size w w' := ⟨h.os, h.tape, h.output, h.size, fun k hk => h.block k hk nofun⟩
theorem below_to_gb {w w' : World} (h : Below w.heap.size w w') (r : Option Nat) : w.grownBy w' r := ⟨h.os, h.tape, h.output, h.size, fun k hk _ => h.block k hk⟩
/-- a new box, and a store into it -/
theorem below_box {a b c : World} (h1 : a.grownBy b none) (h2 : b.grownBy c (some a.heap.size)) : Below a.heap.size a c :=
  ⟨h2.os.trans h1.os, h2.tape.trans h1.tape, h2.output.trans h1.output, Nat.le_trans h1.size h2.size, fun k hk => (h2.block k (Nat.lt_of_lt_of_le hk h1.size) (fun e => by injection e with e; omega)).trans (h1.block k hk nofun)⟩
theorem own_below {w w' : World} {base : Nat} {e : TypeId} {size n : Nat} {v : Value} {xs : List Value} (h : w.ownsRow base e size v n xs) (hb : Below w.heap.size w w') : w'.ownsRow base e size v n xs :=
  h.kept (below_to_gb hb none) (by cases v.ownBlock <;> simp)
/-- 'Below' from an earlier base -/
theorem below_then {B : Nat} {a b c : World} (h1 : Below B a b) (hB : B ≤ a.heap.size) (h2 : Below b.heap.size b c) : Below B a c := h1.trans (h2.mono (Nat.le_trans hB h1.size))
theorem get_at {l : List UInt8} {k : Nat} {x : UInt8} (h : l[k]? = some x) : ∀ hk : k < l.length, l[k]'hk = x := by
  intro hk
  rw [List.getElem?_eq_getElem hk] at h
  injection h
end Go.Proofs.YtkmkidbajmbigaaDoor
