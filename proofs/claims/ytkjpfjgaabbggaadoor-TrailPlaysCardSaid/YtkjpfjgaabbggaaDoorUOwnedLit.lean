/- muntinlaw01.Owned, of rows that stand in a new row of their own. -/
import Derived.Test.YtkjpfjgaabbggaaDoorUOwned
set_option linter.unusedVariables false
set_option linter.unusedSimpArgs false
namespace Go.Proofs.YtkjpfjgaabbggaaDoor
open Go.RowKit

theorem Apart.of_pairwise {vs : List Value} (h : vs.Pairwise fun u v => ∀ k, u.ownBlock = some k → v.ownBlock ≠ some k) : Apart vs := by
  intro i j hi hj hij k hk hk2
  rcases Nat.lt_or_gt_of_ne hij with h1 | h1
  · exact List.pairwise_iff_getElem.1 h i j hi hj h1 k hk hk2
  · exact List.pairwise_iff_getElem.1 h j i hj hi h1 k hk2 hk
theorem Rooms.of_all {w : World} {vs : List Value} (h : ∀ v ∈ vs, Room w v False 0) : Rooms w vs 0 := fun j hj => (h _ (List.getElem_mem hj)).zero (by omega)
/-- two that are owned from different places have different blocks -/
theorem own_apart0 {w w' : World} {b b' n n' : Nat} {e e' : TypeId} {s s' : Nat} {v v' : Value} {xs xs' : List Value} (h : w.ownsRow b e s v n xs) (h' : w'.ownsRow b' e' s' v' n' xs') (hb : w.heap.size ≤ b') : ∀ k, v.ownBlock = some k → v'.ownBlock ≠ some k := by
  intro k hk hk2
  have h1 := (h.lt k hk).2
  have h2 := (h'.lt k hk2).1
  omega
theorem Room.lt {w : World} {v : Value} {m : Prop} {b : Int} (h : Room w v m b) : ∀ k, v.ownBlock = some k → k < w.heap.size := by
  intro k hk
  rcases h with rfl | ⟨g, n, cap, cur, rfl, hg, _⟩
  · simp [Value.ownBlock] at hk
  · simp [Value.ownBlock] at hk
    subst hk
    exact (Array.getElem?_eq_some_iff.1 hg).1
/-- Owned, of rows that stand in a row of their own -/
theorem owned_lit (vs : List Value) (arr : Array Value) (n : Nat) (w : World) (harr : arr.toList = vs) (hn : vs.length = n) (hb : n ≤ 140737488351232) (hr : ∀ v ∈ vs, Room w v False 0) (ha : vs.Pairwise fun u v => ∀ k, u.ownBlock = some k → v.ownBlock ≠ some k) :
    Calls Tryd.prog 43 #[.slice (some ⟨w.heap.size, 0, none⟩) n n] (w.alloc (.cells arr 42)) fun e w' => e = .returned (.bool true) ∧ Out (OwnB vs) (w.alloc (.cells arr 42)) w' ∧ Rooms w' vs vs.length := by
  subst hn; subst harr
  refine owned_any w.heap.size 0 _ arr.toList _ hb (fun i h => ?_) (Rooms.of_all fun v hv => (hr v hv).step (fun k hk => Below.heap_alloc _ _ _ ((hr v hv).lt k hk)) (fun h => h)) (Apart.of_pairwise ha) (fun v hv h => ?_)
  · simp only [World.cell?, heap_alloc_new, Option.isSome_none, Bool.false_eq_true, ↓reduceIte, Nat.zero_add]
    rw [← Array.getElem?_toList, List.getElem?_eq_getElem h]
  · exact absurd ((hr v hv).lt _ h) (by omega)
end Go.Proofs.YtkjpfjgaabbggaaDoor
