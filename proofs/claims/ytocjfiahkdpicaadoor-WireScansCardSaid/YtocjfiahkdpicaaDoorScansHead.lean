/- muntinlaw01.WireScans: words of its walks. -/
import Derived.Test.YtocjfiahkdpicaaDoorWireFrames
import Derived.Test.YtocjfiahkdpicaaDoorRefScan
import Derived.Test.YtocjfiahkdpicaaDoorTornPlain
import Derived.Test.YtocjfiahkdpicaaDoorRowsRead
set_option linter.unusedVariables false
set_option linter.unusedSimpArgs false
namespace Go.Proofs.YtocjfiahkdpicaaDoor
open Go.RowKit

theorem stake_next {α : Type} (l : List α) (k : Nat) (h : k < l.length) : l.take (k + 1) = l.take k ++ [l[k]] := by rw [List.take_succ_eq_append_getElem h]
theorem lent_len (A : Option Addr) (len c : Nat) (bs : List UInt8) (w : World) (hl : bs.length = len) (hn : len ≤ 140737488351232) (hr : RB w A bs) :
    Calls Tryd.prog 11 #[.slice A len c] w fun e w' => e = .returned (.slice (some ⟨w.heap.size, 0, none⟩) len (len + 1)) ∧ Below w.heap.size w w' ∧ RB w' (some ⟨w.heap.size, 0, none⟩) bs ∧ w'.cell? ⟨w.heap.size, len, none⟩ = some (.int .u8 77) ∧
      w'.ownsRow w.heap.size 5 1 (.slice (some ⟨w.heap.size, 0, none⟩) len (len + 1)) len (bv bs) := by
  subst hl
  refine (lent_any A c bs w hn hr).mono ?_
  rintro e w' ⟨rfl, rfl⟩
  exact ⟨rfl, below_alloc _ _, RB.new _ _ _ _, cell_new _ _ _ _ _ (by simp), lent_own w bs hn⟩
theorem kept_len (g len c : Nat) (A : Option Addr) (bs : List UInt8) (w : World) (hl : bs.length = len) (hb : RB w (some ⟨g, 0, none⟩) bs) (hr : RB w A bs) (hn : len ≤ 140737488351232) (h77 : w.cell? ⟨g, len, none⟩ = some (.int .u8 77)) :
    Calls Tryd.prog 14 #[.slice (some ⟨g, 0, none⟩) len (len + 1), .slice A len c] w fun e w' => e = .returned (.bool true) ∧ w' = w := by
  subst hl
  exact kept_any _ _ _ c bs w g rfl hb hr (Nat.le_refl _) hn h77
theorem owned_len (R len c : Nat) (vs : List Value) (w : World) (hl : vs.length = len) (hn : len ≤ 140737488351232) (hc : ∀ i, i < len → w.cell? ⟨R, i, none⟩ = vs[i]?) (hr : ∀ v ∈ vs, Room w v False 0) (ha : vs.Pairwise fun u v => ∀ k, u.ownBlock = some k → v.ownBlock ≠ some k) (hR : ∀ v ∈ vs, v.ownBlock ≠ some R) :
    Calls Tryd.prog 17 #[.slice (some ⟨R, 0, none⟩) len c] w fun e w' => e = .returned (.bool true) ∧ Out (OwnB vs) w w' := by
  subst hl
  refine (owned_any R 0 c vs w hn (fun i h => ?_) (Rooms.of_all hr) (Apart.of_pairwise ha) hR).mono ?_
  · rw [Nat.zero_add, hc i h, List.getElem?_eq_getElem h]
  · rintro e w' ⟨rfl, h, _⟩
    exact ⟨rfl, h⟩
theorem bv_set (bs : List UInt8) (j : Nat) (x : UInt8) : bv (bs.set j x) = (bv bs).set j (.int .u8 x.toNat) := by simp [bv, List.map_set]

end Go.Proofs.YtocjfiahkdpicaaDoor
