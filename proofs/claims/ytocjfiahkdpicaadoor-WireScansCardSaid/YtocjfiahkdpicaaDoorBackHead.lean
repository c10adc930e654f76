/- muntinlaw01.WireBack is true on each of its ways. Printed by this project's own back.py. -/
import Derived.Test.YtocjfiahkdpicaaDoorBackPlain
set_option linter.unusedVariables false
set_option linter.unusedSimpArgs false
namespace Go.Proofs.YtocjfiahkdpicaaDoor
open Go.RowKit

/-- behind an append to a row that was just made -/
theorem below_app0 {w wa : World} {C : Array Value} {t : TypeId} {n c : Nat} (hg : (w.alloc (.cells C t)).grownBy wa (Value.ownBlock (.slice (some ⟨w.heap.size, 0, none⟩) n c))) : Below w.heap.size w wa :=
  (below_alloc w _).grown hg (by simp) (fun k hk => by simp [Value.ownBlock] at hk; omega)
theorem below_drewN {B : Nat} {w0 w : World} (h : Below B w0 w) (m : Nat) : Below B w0 (w.drewN m) := ⟨h.os, h.tape, h.output, h.size, h.block⟩
theorem below_app {B : Nat} {w0 w wa wb : World} {C : Array Value} {t e : TypeId} {n c m : Nat} {v : Value} {xs : List Value} (b : Below B w0 w) (own : wa.ownsRow w.heap.size e 1 v m xs)
    (hg : (w.alloc (.cells C t)).grownBy wa (Value.ownBlock (.slice (some ⟨w.heap.size, 0, none⟩) n c))) (hg2 : wa.grownBy wb v.ownBlock) (hB : B ≤ w.heap.size) : Below B w0 wb :=
  (b.trans ((below_app0 hg).mono hB)).grown hg2 (Nat.le_trans hB (below_app0 hg).size) (fun k hk => Nat.le_trans hB (own.lt k hk).1)
end Go.Proofs.YtocjfiahkdpicaaDoor
