/- wire.Frame: bytes in a frame. -/
import Derived.Test.YtocjfiahkdpicaaDoorSum
import Derived.Test.YtocjfiahkdpicaaDoorPutGet
import Derived.Deep.RegionHeld3
set_option linter.unusedVariables false
set_option linter.unusedSimpArgs false
namespace Go.Proofs.YtocjfiahkdpicaaDoor
open Go.RowKit

/-- a frame's bytes -/
def frame (p : List UInt8) : List UInt8 := four p.length ++ p ++ four (crc (four p.length ++ p))
theorem four_length (n : Nat) : (four n).length = 4 := rfl
theorem frame_length (p : List UInt8) : (frame p).length = p.length + 8 := by simp [frame, four_length]; omega

set_option maxHeartbeats 400000 in
theorem frame_long (A : Option Addr) (n c : Nat) (w : World) (h : 1048576 < n) (hn : n ≤ 140737488351232) :
    Calls Tryd.prog 12 #[.slice A n c] w fun e w' => e = .returned (.tuple #[.slice none 0 0, .iface 27 (.int .i64 2)]) ∧ w' = w := by
  go_enter Tryd.func12, Tryd.ntmps12
  go_wp2_with fail
  go_ret2
  exact ⟨rfl, rfl⟩

theorem splice_a (bs : List UInt8) (v : Value) : splice (splice (zs (bs.length + 8) v) 0 (bv (four bs.length))) 4 (bv bs) = bv (four bs.length ++ bs) ++ zs 4 v := by
  rw [splice_head, zs_drop, splice_behind _ _ _ 4 (by simp [four_length]), zs_drop, bv_append]
  congr 2
  simp [four_length]
theorem splice_b (x y : List UInt8) (v : Value) (hy : y.length = 4) : splice (bv x ++ zs 4 v) x.length (bv y) = bv (x ++ y) := by
  rw [splice_behind _ _ _ _ (by simp), zs_drop, bv_append]
  simp [hy, zs]

set_option maxRecDepth 100000 in
set_option maxHeartbeats 1000000 in
theorem frame_any (A : Option Addr) (c : Nat) (bs : List UInt8) (w : World) (h : bs.length ≤ 1048576) (hr : RB w A bs) :
    Calls Tryd.prog 12 #[.slice A bs.length c] w fun e w' => e = .returned (.tuple #[.slice (some ⟨w.heap.size, 0, none⟩) (frame bs).length (frame bs).length, .nilIface]) ∧
      w'.heap[w.heap.size]? = some (.cells (mem (bv (frame bs))) 5 (0, 0)) ∧ Below w.heap.size w w' := by
  have hmk := run_make_u8 (bs.length + 8) (bs.length + 8) (by omega) (by omega) ((bs.length : Int) + 8) ((bs.length : Int) + 8) (by omega) (by omega)
  have hcp := copy_made_at (P := Tryd.prog) w 22 22 3 5 Tryd.underlying22 size_u8 A bs c (bs.length + 4) (bs.length + 4) 4 (splice (zs (bs.length+8) (.int .u8 0)) 0 (bv (four bs.length))) hr (by omega) (by rw [length_splice _ _ _ (by simp [four_length])]; simp; omega)
  rw [splice_a] at hcp
  go_enter Tryd.func12, Tryd.ntmps12
  go_wp2_with fail
  refine (put_any w.heap.size 0 (bs.length + 8) (bs.length + 8) bs.length _ (zs (bs.length + 8) (.int .u8 0)) 5 (by omega) (by simp) (by omega) (heap_alloc_new _ _)).mono ?_
  rintro e w1 ⟨rfl, rfl⟩
  rw [alloc_setRow]
  go_wp2_with fail
  obtain ⟨hd, hhd⟩ : ∃ hd, hd = four bs.length ++ bs := ⟨_, rfl⟩
  rw [← hhd]
  have hl : hd.length = bs.length + 4 := by rw [hhd]; simp [four_length]; omega
  obtain ⟨w1, hw1⟩ : ∃ w1, w1 = w.alloc (.cells (mem (bv hd ++ zs 4 (.int .u8 0))) 5) := ⟨_, rfl⟩
  rw [← hw1]
  have b1 : Below w.heap.size w w1 := by rw [hw1]; exact below_alloc _ _
  have g1 : w1.heap[w.heap.size]? = some (.cells (mem (bv hd ++ zs 4 (.int .u8 0))) 5 (0, 0)) := by rw [hw1]; exact heap_alloc_new _ _
  have s1 : w.heap.size < w1.heap.size := by rw [hw1]; simp
  have i1 : IntKind.i64.wrap ((bs.length : Int) + 4) = (bs.length : Int) + 4 := IntWalk.i64_in _ (by omega)
  have i2 : 0 ≤ (bs.length : Int) + 4 := by omega
  have i3 : ((bs.length : Int) + 4).toNat = bs.length + 4 := by omega
  have HH := Lib.hid hhd
  have G1 := Lib.hid g1
  have HL := Lib.hid hl
  clear hw1 hhd g1 hl
  go_region_held3 (fun _ => True) (trivial)
    (first
      | (go_at_call 30; refine (sum_len (some ⟨w.heap.size, 0, none⟩) (bs.length + 4) (bs.length + 8) hd _ ?_ ?_ ?_).mono ?_; exact HL.out; omega; exact RB.block G1.out (by rw [mem_toList, List.take_append_of_le_length (by simp), List.take_of_length_le (by simp)]); rintro e w2 ⟨rfl, b2⟩)
      | (go_at_call 29; refine (put_any w.heap.size (bs.length + 4) 4 4 (crc hd) _ (bv hd ++ zs 4 (.int .u8 0)) 5 ?_ ?_ ?_ ?_).mono ?_; omega; (simp [HL.out]); exact crc_lt hd; exact (b2.block _ s1).trans G1.out; rintro e w3 ⟨rfl, rfl⟩))
  have g2 : w2.heap[w.heap.size]? = some (.cells (mem (bv hd ++ zs 4 (.int .u8 0))) 5 (0, 0)) := (b2.block _ s1).trans G1.out
  have b3 : Below w.heap.size w w2 := b1.trans ⟨b2.os, b2.tape, b2.output, b2.size, fun k hk => b2.block k (Nat.lt_trans hk s1)⟩
  clear b2 b1
  have G2 := Lib.hid g2
  clear g2
  go_wp2_with fail
  go_ret2
  have e1 : splice (bv hd ++ zs 4 (.int .u8 0)) (bs.length + 4) (bv (four (crc hd))) = bv (frame bs) := by
    rw [← HL.out, splice_b hd (four (crc hd)) _ rfl, HH.out]; rfl
  rw [e1]
  refine ⟨?_, row_heap G2.out _, ?_⟩
  · rw [frame_length]; rfl
  · exact below_setRow b3 (Nat.le_refl _) _
end Go.Proofs.YtocjfiahkdpicaaDoor
