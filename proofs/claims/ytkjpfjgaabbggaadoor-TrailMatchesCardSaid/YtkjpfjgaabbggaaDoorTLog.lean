/- muntinlaw21.log: the contract. -/
import Derived.Test.YtkjpfjgaabbggaaDoorTLogs
import Derived.Test.YtkjpfjgaabbggaaDoorTSmall
set_option linter.unusedVariables false
set_option linter.unusedSimpArgs false
namespace Go.Proofs.YtkjpfjgaabbggaaDoor
open Go.RowKit

set_option maxRecDepth 100000 in
set_option maxHeartbeats 1000000 in
theorem log_any (x T : Nat) (w : World) (hx : x ≤ 200) (hT : T ≤ 200) :
    Calls Tryd.prog 17 #[.int .i64 x, .int .i64 T] w fun e w' => ∃ D, e = .returned (.agg #[.int .i64 x, .int .i64 T, .int .i64 0, D]) ∧ OD w' w.heap.size D (logE x T).d ∧ Below w.heap.size w w' := by
  have h1 : IntKind.u8.wrap (x : Int) = (x : Int) := by simp [IntKind.wrap, IntKind.bits, IntKind.signed]; omega
  have h2 : IntKind.u8.wrap (T : Int) = (T : Int) := by simp [IntKind.wrap, IntKind.bits, IntKind.signed]; omega
  go_enter Tryd.func17, Tryd.ntmps17
  go_wp2_with fail
  have hbv : bv (logE x T).d = [.int .u8 (x : Int), .int .u8 (T : Int)] := by
    have e1 : (UInt8.ofNat x).toNat = x := by rw [UInt8.toNat_ofNat']; omega
    have e2 : (UInt8.ofNat T).toNat = T := by rw [UInt8.toNat_ofNat']; omega
    simp only [logE, bv, List.map_cons, List.map_nil, e1, e2]
  refine bodyPost_ret (v := .agg #[.int .i64 x, .int .i64 T, .int .i64 0, .slice (some ⟨w.heap.size + 1, 0, none⟩) 2 2]) (by simp [results, Tryd.results17, go_sem]) rfl ⟨_, rfl, ⟨?_, by simp [logE]⟩, (below_alloc w _).alloc (below_alloc w _).size _⟩
  rw [hbv]
  refine ⟨rfl, .inr ⟨w.heap.size + 1, 2, #[.int .u8 (x : Int), .int .u8 (T : Int)], rfl, by omega, ?_, by simp [logE], by unfold maxLen; omega, rfl, rfl⟩⟩
  have := heap_alloc_new (w.alloc (.cells #[.int .i64 x, .int .i64 T, .int .i64 0, .slice (some ⟨w.heap.size + 1, 0, none⟩) 2 2] 44)) (.cells #[.int .u8 (x : Int), .int .u8 (T : Int)] 5)
  simpa using this
end Go.Proofs.YtkjpfjgaabbggaaDoor
