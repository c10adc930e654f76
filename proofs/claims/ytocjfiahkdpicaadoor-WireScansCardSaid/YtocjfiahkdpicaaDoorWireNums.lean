/- muntinlaw01.WireNums is true, whatever the number and the bytes: the law's own walk. -/
import Derived.Test.YtocjfiahkdpicaaDoorCodeAny
import Derived.Test.YtocjfiahkdpicaaDoorRefTake
import Derived.Test.YtocjfiahkdpicaaDoorRefBlob
import Derived.Test.YtocjfiahkdpicaaDoorOwned
import Derived.OpenShut
set_option linter.unusedVariables false
set_option linter.unusedSimpArgs false
namespace Go.Proofs.YtocjfiahkdpicaaDoor
open Go.RowKit

def numE (n : Int) : Nat := if n < 0 then 1 else 0
def numB (n : Int) : List UInt8 := if n < 0 then [] else numb n.toNat
theorem num_int (n : Int) (w : World) (hn : (Lit.int .i64 n).wf = true) :
    Calls Tryd.prog 9 #[.int .i64 n] w fun e w' => ∃ v, e = .returned (.tuple #[v, errV (numE n)]) ∧ w'.ownsRow w.heap.size 5 1 v (numB n).length (bv (numB n)) ∧ Below w.heap.size w w' := by
  have bn := bounds_i64 hn
  by_cases h : n < 0
  · refine (num_neg n w h).mono ?_
    rintro e w' ⟨rfl, rfl⟩
    exact ⟨_, by simp only [numE, if_pos h]; rfl, by simp only [numB, if_pos h]; exact World.ownsRow_nil _ _ _ _, Below.refl _ _⟩
  · obtain ⟨n, rfl⟩ := Int.eq_ofNat_of_zero_le (show 0 ≤ n by omega)
    refine (num_any n w (Lib.hid (by omega))).mono ?_
    rintro e w' ⟨rfl, rfl⟩
    have hl := digs_len8 n (by omega)
    have hnl := numb_length n
    refine ⟨.slice (some ⟨w.heap.size, 0, none⟩) (numb n).length (numb n).length, by simp only [numE, if_neg h, hnl]; rfl, ?_, below_alloc _ _⟩
    simp only [numB, if_neg h]
    exact own_new w (numb n) 5 (by unfold maxLen; omega)
theorem rnum_int (n : Int) (w : World) (hn : (Lit.int .i64 n).wf = true) :
    Calls Tryd.prog 21 #[.int .i64 n] w fun e w' => ∃ v, e = .returned (.tuple #[v, .int .i64 (numE n)]) ∧ w'.ownsRow w.heap.size 5 1 v (numB n).length (bv (numB n)) ∧ Below w.heap.size w w' := by
  have bn := bounds_i64 hn
  by_cases h : n < 0
  · refine (rnum_neg n w h).mono ?_
    rintro e w' ⟨rfl, rfl⟩
    exact ⟨_, by simp only [numE, if_pos h]; rfl, by simp only [numB, if_pos h]; exact World.ownsRow_nil _ _ _ _, Below.refl _ _⟩
  · obtain ⟨n, rfl⟩ := Int.eq_ofNat_of_zero_le (show 0 ≤ n by omega)
    refine (rnum_any n w (Lib.hid (by omega))).mono ?_
    rintro e w' ⟨v, rfl, own, b⟩
    exact ⟨v, by simp only [numE, if_neg h]; rfl, by simp only [numB, if_neg h]; exact own, b⟩
theorem Apart.of_pairwise {vs : List Value} (h : vs.Pairwise fun u v => ∀ k, u.ownBlock = some k → v.ownBlock ≠ some k) : Apart vs := by
  intro i j hi hj hij k hk hk2
  rcases Nat.lt_or_gt_of_ne hij with h1 | h1
  · exact List.pairwise_iff_getElem.1 h i j hi hj h1 k hk hk2
  · exact List.pairwise_iff_getElem.1 h j i hj hi h1 k hk2 hk
theorem Rooms.of_all {w : World} {vs : List Value} (h : ∀ v ∈ vs, Room w v False 0) : Rooms w vs 0 := fun j hj => (h _ (List.getElem_mem hj)).zero (by omega)
/-- two that are owned from different places have different blocks -/
theorem own_apart {w w' : World} {b b' n n' : Nat} {e e' : TypeId} {s s' : Nat} {v v' : Value} {xs xs' : List Value} (h : w.ownsRow b e s v n xs) (h' : w'.ownsRow b' e' s' v' n' xs') (hb : w.heap.size ≤ b') : ∀ k, v.ownBlock = some k → v'.ownBlock ≠ some k := by
  intro k hk hk2
  have h1 := (h.lt k hk).2
  have h2 := (h'.lt k hk2).1
  omega
theorem own_below {w w' : World} {b n : Nat} {e : TypeId} {s : Nat} {v : Value} {xs : List Value} (h : w.ownsRow b e s v n xs) (hb : Below w.heap.size w w') : w'.ownsRow b e s v n xs :=
  h.kept (row := none) ⟨hb.os, hb.tape, hb.output, hb.size, fun k hk _ => hb.block k hk⟩ (by cases h : v.ownBlock <;> simp)
/-- what Lent makes is owned, its spare room too -/
theorem lent_own (w : World) (bs : List UInt8) (h : bs.length ≤ 140737488351232) : (w.alloc (.cells (mem (bv bs ++ [Value.int .u8 77])) 5)).ownsRow w.heap.size 5 1 (.slice (some ⟨w.heap.size, 0, none⟩) bs.length (bs.length + 1)) bs.length (bv bs) :=
  ⟨by simp, .inr ⟨w.heap.size, bs.length + 1, mem (bv bs ++ [Value.int .u8 77]), rfl, Nat.le_refl _, heap_alloc_new _ _, by omega, by unfold maxLen; omega, by simp, by rw [mem_toList, List.take_append_of_le_length (by simp), List.take_of_length_le (by simp)]⟩⟩

theorem Room.lt {w : World} {v : Value} {m : Prop} {b : Int} (h : Room w v m b) : ∀ k, v.ownBlock = some k → k < w.heap.size := by
  intro k hk
  rcases h with rfl | ⟨g, n, cap, cur, rfl, hg, _⟩
  · simp [Value.ownBlock] at hk
  · simp [Value.ownBlock] at hk
    subst hk
    exact (Array.getElem?_eq_some_iff.1 hg).1
/-- Owned, of rows that stand in a row of their own -/
theorem owned_lit (vs : List Value) (arr : Array Value) (n : Nat) (w : World) (harr : arr.toList = vs) (hn : vs.length = n) (hb : n ≤ 140737488351232) (hr : ∀ v ∈ vs, Room w v False 0) (ha : vs.Pairwise fun u v => ∀ k, u.ownBlock = some k → v.ownBlock ≠ some k) :
    Calls Tryd.prog 17 #[.slice (some ⟨w.heap.size, 0, none⟩) n n] (w.alloc (.cells arr 22)) fun e w' => e = .returned (.bool true) ∧ Out (OwnB vs) (w.alloc (.cells arr 22)) w' ∧ Rooms w' vs vs.length := by
  subst hn; subst harr
  refine owned_any w.heap.size 0 _ arr.toList _ hb (fun i h => ?_) (Rooms.of_all fun v hv => (hr v hv).step (fun k hk => Below.heap_alloc _ _ _ ((hr v hv).lt k hk)) (fun h => h)) (Apart.of_pairwise ha) (fun v hv h => ?_)
  · simp only [World.cell?, heap_alloc_new, Option.isSome_none, Bool.false_eq_true, ↓reduceIte, Nat.zero_add]
    rw [← Array.getElem?_toList, List.getElem?_eq_getElem h]
  · exact absurd ((hr v hv).lt _ h) (by omega)

theorem num256 : numb 256 = [2, 1, 0] := by decide +kernel

set_option maxRecDepth 100000 in
set_option maxHeartbeats 2000000 in
theorem wireNums_walk (n : Int) (A : Option Addr) (c : Nat) (bs : List UInt8) (w : World) (wn : (Lit.int .i64 n).wf = true) (hl : bs.length ≤ c) (hc : c ≤ 140737488351232) (hr : RB w A bs) (hE : ErrT w) :
    Calls Tryd.prog 6 #[.int .i64 n, .slice A bs.length c] w fun e w' => e = .returned (.bool true) ∧ Below w.heap.size w w' := by
  have hn : bs.length ≤ 140737488351232 := by omega
  have hni := fun w => num_int n w wn
  have hri := fun w => rnum_int n w wn
  generalize numE n = cn at hni hri
  generalize numB n = B at hni hri
  clear wn
  go_enter Tryd.func6, Tryd.ntmps6
  go_wp2_with fail
  refine (lent_any A c bs w hn hr).mono ?_
  rintro e w1 ⟨rfl, hw1⟩
  have b1 : Below w.heap.size w w1 := by rw [hw1]; exact below_alloc _ _
  have r1 : RB w1 (some ⟨w.heap.size, 0, none⟩) bs := by rw [hw1]; exact RB.new _ _ _ _
  have c1 : w1.cell? ⟨w.heap.size, bs.length, none⟩ = some (.int .u8 77) := by rw [hw1]; exact cell_new _ _ _ _ _ (by simp)
  have o1 : w1.ownsRow w.heap.size 5 1 (.slice (some ⟨w.heap.size, 0, none⟩) bs.length (bs.length + 1)) bs.length (bv bs) := by rw [hw1]; exact lent_own w bs hn
  have C1 := Lib.hid c1
  clear hw1 c1
  go_wp2_with fail
  refine (hni w1).mono ?_
  rintro e w2 ⟨va, rfl, oa, b2⟩
  obtain ⟨Va, ca, rfl, hca, hVa⟩ := own_shape oa
  have bel2 := below_then b1 b1.size b2
  have r2 := r1.below b2
  have o2 := own_below o1 b2
  have C2 := Lib.hid (below_cell b2 C1.out)
  have hap := own_apart o1 oa (Nat.le_refl _)
  have hs1 := Lib.hid b1.size
  clear r1 o1 C1 b1
  go_wp2_with fail
  refine (takenum_any _ _ _ bs w2 rfl (by omega) (by omega) r2).mono ?_
  rintro e w' ⟨rfl, rfl⟩
  go_wp2_with fail
  refine (hri w').mono ?_
  rintro e w3 ⟨vr, rfl, ow, b3⟩
  obtain ⟨Vr, cr, rfl, hcr, hVr⟩ := own_shape ow
  have bel3 := below_then bel2 bel2.size b3
  have r3 := r2.below b3
  have o3 := own_below o2 b3
  have oa3 := own_below oa b3
  have C3 := Lib.hid (below_cell b3 C2.out)
  clear r2 o2 C2 bel2 oa b2 b3
  go_wp2_with fail
  refine (rtakenum_any _ _ _ bs w3 rfl (by omega) (by omega) (hr.below bel3)).mono ?_
  rintro e w' ⟨rfl, rfl⟩
  go_wp2_with fail
  refine (kept_any _ _ _ c bs w' _ rfl r3 (hr.below bel3) (Nat.le_refl _) hn C3.out).mono ?_
  rintro e w'' ⟨rfl, rfl⟩
  have s1 := run_str w'' Va B ca (RB.own oa3) 9 Tryd.underlying9
  have s2 := run_str w'' Vr B cr (RB.own ow) 9 Tryd.underlying9
  have s3 : (B == B) = true := by simp
  have hpw : [Value.slice Va B.length ca, .slice (some ⟨w.heap.size, 0, none⟩) bs.length (bs.length + 1)].Pairwise fun u v => ∀ k, u.ownBlock = some k → v.ownBlock ≠ some k := by
    simp only [List.pairwise_cons, List.mem_singleton, forall_eq, List.not_mem_nil, false_implies, implies_true, List.Pairwise.nil, and_true]
    intro k h1 h2
    exact hap k h2 h1
  have hrm : ∀ v ∈ [Value.slice Va B.length ca, .slice (some ⟨w.heap.size, 0, none⟩) bs.length (bs.length + 1)], Room w'' v False 0 := by
    intro v hv
    simp only [List.mem_cons, List.not_mem_nil, or_false] at hv
    rcases hv with rfl | rfl
    · exact Room.own oa3
    · exact Room.own o3
  have hlt : ∀ k, OwnB [Value.slice Va B.length ca, .slice (some ⟨w.heap.size, 0, none⟩) bs.length (bs.length + 1)] k → w.heap.size ≤ k := by
    rintro k ⟨v, hv, h⟩
    simp only [List.mem_cons, List.not_mem_nil, or_false] at hv
    rcases hv with rfl | rfl
    · exact Nat.le_trans hs1.out (oa3.lt k h).1
    · exact (o3.lt k h).1
  have how := owned_lit _ #[Value.slice Va B.length ca, .slice (some ⟨w.heap.size, 0, none⟩) bs.length (bs.length + 1)] 2 w'' rfl rfl (by omega) hrm hpw
  clear hap hpw hrm
  go_wp2_with fail
  refine how.mono ?_
  rintro e w5 ⟨rfl, hout, _⟩
  have bel5 := hout.below ((bel3.trans ((below_alloc w'' _).mono bel3.size))) hlt
  clear how hout hlt o3 oa3 ow r3 C3 s1 s2
  go_wp2_with fail
  refine (num_any 256 w5 (Lib.hid (by decide))).mono ?_
  rw [num256]
  rintro e w6 ⟨rfl, hw6⟩
  have b6 : Below w5.heap.size w5 w6 := by rw [hw6]; exact below_alloc _ _
  have r6 : RB w6 (some ⟨w5.heap.size, 0, none⟩) [2, 1, 0] := by rw [hw6]; exact RB.new0 _ _ _
  have bel6 := below_then bel5 bel5.size b6
  clear hw6
  go_wp2_with fail
  refine (code_any cn w6 (hE.below bel6)).mono ?_
  rintro e w7 ⟨rfl, b7⟩
  have bel7 := below_then bel6 bel6.size b7
  go_wp2_with fail
  refine (code_any (takeE bs) w7 (hE.below bel7)).mono ?_
  rintro e w8 ⟨rfl, b8⟩
  have bel8 := below_then bel7 bel7.size b8
  have s4 : (convert 22 9 (.slice (some ⟨w5.heap.size, 0, none⟩) 3 3)).run Tryd.prog w8 = .ok (.string { data := #[2, 1, 0] }) w8 := run_str w8 _ [2, 1, 0] 3 ((r6.below b7).below b8) 9 Tryd.underlying9
  go_wp2_with fail
  go_ret
  exact ⟨rfl, bel8⟩
end Go.Proofs.YtocjfiahkdpicaaDoor
