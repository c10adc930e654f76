/- Two laws that the numbers' contracts use; nothing of the program stands here. -/
import Derived.Test.YtaopipghooaekaaDoorLent
import Derived.Deep.QuietTactic
import Derived.BigQuiet
set_option linter.unusedVariables false
set_option linter.unusedSimpArgs false
namespace Go.Proofs.YtaopipghooaekaaDoor
open Go.RowKit

theorem or_i64 (x y : Nat) (i : Nat) (hx : x % 2 ^ i = 0) (hx1 : x < 2 ^ 63) (hy : y < 2 ^ i) (hi : 2 ^ i ≤ 2 ^ 63) : bits .or .i64 (x : Int) (y : Int) = ((x + y : Nat) : Int) := by
  have := bits_join .i64 63 (by decide) (fun n h0 h1 => by rw [IntKind.wrap_i64]; omega) i (x : Int) (y : Int) (by omega) (by exact_mod_cast hx) (by exact_mod_cast hx1) (by omega) (by exact_mod_cast hy) (by
    have : y < 2 ^ 63 := Nat.lt_of_lt_of_le hy hi
    exact_mod_cast this)
  rw [this]; simp

theorem own_new (w : World) (bs : List UInt8) (t : TypeId) (hm : bs.length ≤ maxLen) : (w.alloc (.cells (mem (bv bs)) t)).ownsRow w.heap.size t 1 (.slice (some ⟨w.heap.size, 0, none⟩) bs.length bs.length) bs.length (bv bs) :=
  ⟨by simp, .inr ⟨w.heap.size, bs.length, mem (bv bs), rfl, Nat.le_refl _, heap_alloc_new _ _, Nat.le_refl _, hm, by simp, by rw [mem_toList, List.take_of_length_le (by simp)]⟩⟩

end Go.Proofs.YtaopipghooaekaaDoor
