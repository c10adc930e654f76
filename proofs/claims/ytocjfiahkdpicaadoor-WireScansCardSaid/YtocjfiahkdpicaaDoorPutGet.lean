/- wire.put, wire.get: four bytes. -/
import Derived.Test.YtocjfiahkdpicaaDoorLent
import Derived.Deep.QuietTactic
import Derived.BigQuiet
set_option linter.unusedVariables false
set_option linter.unusedSimpArgs false
namespace Go.Proofs.YtocjfiahkdpicaaDoor
open Go.RowKit

/-- a number below 2^32 in four bytes -/
def four (n : Nat) : List UInt8 := [UInt8.ofNat (n / 16777216), UInt8.ofNat (n / 65536), UInt8.ofNat (n / 256), UInt8.ofNat n]
/-- four bytes as a number -/
def num4 (a b c d : UInt8) : Nat := a.toNat * 16777216 + b.toNat * 65536 + c.toNat * 256 + d.toNat

theorem or_i64 (x y : Nat) (i : Nat) (hx : x % 2 ^ i = 0) (hx1 : x < 2 ^ 63) (hy : y < 2 ^ i) (hi : 2 ^ i ≤ 2 ^ 63) : bits .or .i64 (x : Int) (y : Int) = ((x + y : Nat) : Int) := by
  have := bits_join .i64 63 (by decide) (fun n h0 h1 => by rw [IntKind.wrap_i64]; omega) i (x : Int) (y : Int) (by omega) (by exact_mod_cast hx) (by exact_mod_cast hx1) (by omega) (by exact_mod_cast hy) (by
    have : y < 2 ^ 63 := Nat.lt_of_lt_of_le hy hi
    exact_mod_cast this)
  rw [this]; simp

set_option maxHeartbeats 1000000 in
theorem get_any (g o len cap : Nat) (a b c d : UInt8) (w : World) (hlen : 4 ≤ len)
    (h0 : w.cell? ⟨g, o, none⟩ = some (.int .u8 a.toNat)) (h1 : w.cell? ⟨g, o + 1, none⟩ = some (.int .u8 b.toNat))
    (h2 : w.cell? ⟨g, o + 2, none⟩ = some (.int .u8 c.toNat)) (h3 : w.cell? ⟨g, o + 3, none⟩ = some (.int .u8 d.toNat)) :
    Calls Tryd.prog 33 #[.slice (some ⟨g, o, none⟩) len cap] w fun e w' => e = .returned (.int .i64 (num4 a b c d)) ∧ ∃ n, w' = w.drewN n := by
  have ha := a.toNat_lt
  have hb := b.toNat_lt
  have hc := c.toNat_lt
  have hd := d.toNat_lt
  have l0 : (0 : Int) < (len : Int) := by omega
  have l1 : (1 : Int) < (len : Int) := by omega
  have l2 : (2 : Int) < (len : Int) := by omega
  have l3 : (3 : Int) < (len : Int) := by omega
  go_enter Tryd.func33, Tryd.ntmps33
  go_wp2_with fail
  go_quiet (fail)
  go_wp2_with fail
  go_ret
  refine ⟨?_, _, rfl⟩
  have e1 : bits BinOp.or IntKind.i64 ((a.toNat : Int) * 16777216) ((b.toNat : Int) * 65536) = ((a.toNat * 16777216 + b.toNat * 65536 : Nat) : Int) := by
    have := or_i64 (a.toNat * 16777216) (b.toNat * 65536) 24 (by omega) (by omega) (by omega) (by omega)
    simpa using this
  have e2 : bits BinOp.or IntKind.i64 ((a.toNat * 16777216 + b.toNat * 65536 : Nat) : Int) ((c.toNat : Int) * 256) = ((a.toNat * 16777216 + b.toNat * 65536 + c.toNat * 256 : Nat) : Int) := by
    have := or_i64 (a.toNat * 16777216 + b.toNat * 65536) (c.toNat * 256) 16 (by omega) (by omega) (by omega) (by omega)
    simpa using this
  have e3 : bits BinOp.or IntKind.i64 ((a.toNat * 16777216 + b.toNat * 65536 + c.toNat * 256 : Nat) : Int) (d.toNat : Int) = ((num4 a b c d : Nat) : Int) := by
    have := or_i64 (a.toNat * 16777216 + b.toNat * 65536 + c.toNat * 256) d.toNat 8 (by omega) (by omega) (by omega) (by omega)
    exact this
  show Ending.returned (.int .i64 _) = _
  rw [e1, e2, e3]

/-- 'four' of a number, as values -/
theorem byte_shift (n d : Nat) : ((n : Int) / (d : Int)) % 256 = ((UInt8.ofNat (n / d)).toNat : Int) := by
  simp

set_option maxHeartbeats 1000000 in
theorem put_any (g o len cap : Nat) (n : Nat) (w : World) (cs : List Value) (t : TypeId) (hlen : 4 ≤ len) (ho : o + 4 ≤ cs.length) (hn : n < 4294967296)
    (hg : w.heap[g]? = some (.cells (mem cs) t (0, 0))) :
    Calls Tryd.prog 29 #[.slice (some ⟨g, o, none⟩) len cap, .int .i64 n] w fun e w' => e = .returned (.tuple #[]) ∧ w' = w.setRow g (mem (splice cs o (bv (four n)))) := by
  have c0 : w.cell? ⟨g, o, none⟩ = some cs[o] := by rw [cell_of_mem hg]; simp
  have c1 : w.cell? ⟨g, o + 1, none⟩ = some cs[o + 1] := by rw [cell_of_mem hg]; simp
  have c2 : w.cell? ⟨g, o + 2, none⟩ = some cs[o + 2] := by rw [cell_of_mem hg]; simp
  have c3 : w.cell? ⟨g, o + 3, none⟩ = some cs[o + 3] := by rw [cell_of_mem hg]; simp
  have fz : ∀ i, w.frozen? ⟨g, i, none⟩ = false := unfrozen_of_mem hg
  have l0 : (0 : Int) < (len : Int) := by omega
  have l1 : (1 : Int) < (len : Int) := by omega
  have l2 : (2 : Int) < (len : Int) := by omega
  have l3 : (3 : Int) < (len : Int) := by omega
  have HG := Lib.hid hg
  clear hg
  go_enter Tryd.func29, Tryd.ntmps29
  go_wp2_with fail
  go_end0
  refine ⟨rfl, ?_⟩
  have hg := HG.out
  have e0 : ((n : Int) / 16777216) = ((UInt8.ofNat (n / 16777216)).toNat : Int) := by simp; omega
  have e1 : ((n : Int) / 65536 % 256) = ((UInt8.ofNat (n / 65536)).toNat : Int) := by simp
  have e2 : ((n : Int) / 256 % 256) = ((UInt8.ofNat (n / 256)).toNat : Int) := by simp
  have e3 : ((n : Int) % 256) = ((UInt8.ofNat n).toNat : Int) := by simp
  rw [e0, e1, e2, e3, setCell_mem hg, setCell_mem (row_heap hg _), setRow_setRow, setCell_mem (row_heap hg _), setRow_setRow, setCell_mem (row_heap hg _), setRow_setRow, ← splice_four _ _ _ _ _ _ ho]
  rfl
end Go.Proofs.YtocjfiahkdpicaaDoor
