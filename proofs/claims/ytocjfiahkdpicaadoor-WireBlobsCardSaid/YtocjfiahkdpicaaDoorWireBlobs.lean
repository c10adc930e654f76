/- muntinlaw01.WireBlobs is true, whatever the bytes: the law's own walk. -/
import Derived.Test.YtocjfiahkdpicaaDoorWireNums
set_option linter.unusedVariables false
set_option linter.unusedSimpArgs false
namespace Go.Proofs.YtocjfiahkdpicaaDoor
open Go.RowKit

def blobE (p : List UInt8) : Nat := if 65536 < p.length then 2 else 0
def blobB (p : List UInt8) : List UInt8 := if 65536 < p.length then [] else blob p
theorem blob_all (A : Option Addr) (c : Nat) (bs : List UInt8) (w : World) (hn : bs.length ≤ 140737488351232) (hr : RB w A bs) (hA : A = none → c = 0) :
    Calls Tryd.prog 23 #[.slice A bs.length c] w fun e w' => ∃ v, e = .returned (.tuple #[v, errV (blobE bs)]) ∧ w'.ownsRow w.heap.size 5 1 v (blobB bs).length (bv (blobB bs)) ∧ Below w.heap.size w w' := by
  by_cases h : 65536 < bs.length
  · refine (blob_long A bs.length c w h hn).mono ?_
    rintro e w' ⟨rfl, rfl⟩
    exact ⟨_, by simp only [blobE, if_pos h]; rfl, by simp only [blobB, if_pos h]; exact World.ownsRow_nil _ _ _ _, Below.refl _ _⟩
  · refine (blob_any A bs.length c bs w rfl (by omega) hr hA).mono ?_
    rintro e w' ⟨v, rfl, own, b⟩
    exact ⟨v, by simp only [blobE, if_neg h]; rfl, by simp only [blobB, if_neg h]; exact own, b⟩
theorem rblob_all (A : Option Addr) (c : Nat) (bs : List UInt8) (w : World) (hn : bs.length ≤ 140737488351232) (hr : RB w A bs) (hA : A = none → c = 0) :
    Calls Tryd.prog 25 #[.slice A bs.length c] w fun e w' => ∃ v, e = .returned (.tuple #[v, .int .i64 (blobE bs)]) ∧ w'.ownsRow w.heap.size 5 1 v (blobB bs).length (bv (blobB bs)) ∧ Below w.heap.size w w' := by
  by_cases h : 65536 < bs.length
  · refine (rblob_long A bs.length c w h hn).mono ?_
    rintro e w' ⟨rfl, rfl⟩
    exact ⟨_, by simp only [blobE, if_pos h]; rfl, by simp only [blobB, if_pos h]; exact World.ownsRow_nil _ _ _ _, Below.refl _ _⟩
  · refine (rblob_any A bs.length c bs w rfl (by omega) hr hA).mono ?_
    rintro e w' ⟨v, rfl, own, b⟩
    exact ⟨v, by simp only [blobE, if_neg h]; rfl, by simp only [blobB, if_neg h]; exact own, b⟩
theorem blob_ab : blob [97, 98] = [1, 2, 97, 98] := by decide +kernel

set_option maxRecDepth 100000 in
set_option maxHeartbeats 2000000 in
theorem wireBlobs_walk (A : Option Addr) (c : Nat) (ps : List UInt8) (B : Option Addr) (d : Nat) (bs : List UInt8) (w : World) (hl : ps.length ≤ c) (hc : c ≤ 140737488351232) (hr : RB w A ps) (hA : A = none → c = 0)
    (hl2 : bs.length ≤ d) (hd : d ≤ 140737488351232) (hr2 : RB w B bs) (hE : ErrT w) :
    Calls Tryd.prog 7 #[.slice A ps.length c, .slice B bs.length d] w fun e w' => e = .returned (.bool true) ∧ Below w.heap.size w w' := by
  have hn : ps.length ≤ 140737488351232 := by omega
  have hn2 : bs.length ≤ 140737488351232 := by omega
  have hbi := fun A c w => blob_all A c ps w hn
  have hri := fun A c w => rblob_all A c ps w hn
  generalize blobE ps = cn at hbi hri
  generalize blobB ps = F at hbi hri
  go_enter Tryd.func7, Tryd.ntmps7
  go_wp2_with fail
  refine (lent_any A c ps w hn hr).mono ?_
  rintro e w1 ⟨rfl, hw1⟩
  have b1 : Below w.heap.size w w1 := by rw [hw1]; exact below_alloc _ _
  have hz1 : w1.heap.size = w.heap.size + 1 := by rw [hw1]; simp
  have r1 : RB w1 (some ⟨w.heap.size, 0, none⟩) ps := by rw [hw1]; exact RB.new _ _ _ _
  have c1 : w1.cell? ⟨w.heap.size, ps.length, none⟩ = some (.int .u8 77) := by rw [hw1]; exact cell_new _ _ _ _ _ (by simp)
  have o1 : w1.ownsRow w.heap.size 5 1 (.slice (some ⟨w.heap.size, 0, none⟩) ps.length (ps.length + 1)) ps.length (bv ps) := by rw [hw1]; exact lent_own w ps hn
  have C1 := Lib.hid c1
  have Z1 := Lib.hid hz1
  clear hw1 c1 hz1
  go_wp2_with fail
  refine (lent_any B d bs w1 hn2 (hr2.below b1)).mono ?_
  rintro e w2 ⟨rfl, hw2⟩
  have b2 : Below w1.heap.size w1 w2 := by rw [hw2]; exact below_alloc _ _
  have r2 : RB w2 (some ⟨w1.heap.size, 0, none⟩) bs := by rw [hw2]; exact RB.new _ _ _ _
  have c2 : w2.cell? ⟨w1.heap.size, bs.length, none⟩ = some (.int .u8 77) := by rw [hw2]; exact cell_new _ _ _ _ _ (by simp)
  have o2 : w2.ownsRow w1.heap.size 5 1 (.slice (some ⟨w1.heap.size, 0, none⟩) bs.length (bs.length + 1)) bs.length (bv bs) := by rw [hw2]; exact lent_own w1 bs hn2
  have C2 := Lib.hid c2
  have D2 := Lib.hid (below_cell b2 C1.out)
  have bel2 := below_then b1 b1.size b2
  have p2 := r1.below b2
  have q2 := own_below o1 b2
  have a12 := own_apart o1 o2 (Nat.le_refl _)
  clear hw2 c2 r1 C1 o1
  go_wp2_with fail
  refine (hbi _ _ w2 p2 (fun h => by cases h)).mono ?_
  rintro e w3 ⟨va, rfl, oa, b3⟩
  obtain ⟨Va, ca, rfl, hca, hVa⟩ := own_shape oa
  have bel3 := below_then bel2 bel2.size b3
  have a1a := own_apart q2 oa (Nat.le_refl _)
  have a2a := own_apart o2 oa (Nat.le_refl _)
  have r3 := r2.below b3
  have p3 := p2.below b3
  have q3 := own_below q2 b3
  have o3 := own_below o2 b3
  have C3 := Lib.hid (below_cell b3 C2.out)
  have D3 := Lib.hid (below_cell b3 D2.out)
  have S2 := Lib.hid bel2.size
  have S1 := Lib.hid b1.size
  clear r2 p2 q2 o2 C2 D2 bel2 b2 b1 hbi
  go_wp2_with fail
  refine (takeblob_any _ _ _ bs w3 rfl (by omega) (by omega) r3).mono ?_
  rintro e w4 ⟨vt, rfl, ot, b4⟩
  obtain ⟨Vt, ct, rfl, hct, hVt⟩ := own_shape ot
  have bel4 := below_then bel3 bel3.size b4
  have a1t := own_apart q3 ot (Nat.le_refl _)
  have a2t := own_apart o3 ot (Nat.le_refl _)
  have aat := own_apart oa ot (Nat.le_refl _)
  have r4 := r3.below b4
  have p4 := p3.below b4
  have q4 := own_below q3 b4
  have o4 := own_below o3 b4
  have oa4 := own_below oa b4
  have C4 := Lib.hid (below_cell b4 C3.out)
  have D4 := Lib.hid (below_cell b4 D3.out)
  have S3 := Lib.hid bel3.size
  clear r3 p3 q3 o3 C3 D3 bel3 b3 oa
  go_wp2_with fail
  refine (hri A c w4 (hr.below bel4) hA).mono ?_
  rintro e w5 ⟨vw, rfl, ow, b5⟩
  obtain ⟨Vw, cw, rfl, hcw, hVw⟩ := own_shape ow
  have bel5 := below_then bel4 bel4.size b5
  have r5 := r4.below b5
  have p5 := p4.below b5
  have q5 := own_below q4 b5
  have o5 := own_below o4 b5
  have oa5 := own_below oa4 b5
  have ot5 := own_below ot b5
  have C5 := Lib.hid (below_cell b5 C4.out)
  have D5 := Lib.hid (below_cell b5 D4.out)
  clear r4 p4 q4 o4 C4 D4 bel4 b4 oa4 ot hri
  go_wp2_with fail
  refine (rtakeblob_any B _ d bs w5 rfl hl2 hn2 (hr2.below bel5)).mono ?_
  rintro e w6 ⟨vu, rfl, ou, b6⟩
  obtain ⟨Vu, cu, rfl, hcu, hVu⟩ := own_shape ou
  have bel6 := below_then bel5 bel5.size b6
  have r6 := r5.below b6
  have p6 := p5.below b6
  have q6 := own_below q5 b6
  have o6 := own_below o5 b6
  have oa6 := own_below oa5 b6
  have ot6 := own_below ot5 b6
  have ow6 := own_below ow b6
  have C6 := Lib.hid (below_cell b6 C5.out)
  have D6 := Lib.hid (below_cell b6 D5.out)
  clear r5 p5 q5 o5 C5 D5 bel5 b5 oa5 ot5 ow
  go_wp2_with fail
  refine (kept_any _ _ _ c ps w6 _ rfl p6 (hr.below bel6) (Nat.le_refl _) hn D6.out).mono ?_
  rintro e w' ⟨rfl, rfl⟩
  go_wp2_with fail
  refine (kept_any _ _ _ d bs w' _ rfl r6 (hr2.below bel6) (Nat.le_refl _) hn2 C6.out).mono ?_
  rintro e w'' ⟨rfl, rfl⟩
  have s1 := run_str w'' Va F ca (RB.own oa6) 9 Tryd.underlying9
  have s2 := run_str w'' Vw F cw (RB.own ow6) 9 Tryd.underlying9
  have s3 := run_str w'' Vt (tblP bs) ct (RB.own ot6) 9 Tryd.underlying9
  have s4 := run_str w'' Vu (tblP bs) cu (RB.own ou) 9 Tryd.underlying9
  have s5 : (F == F) = true := by simp
  have s6 : (tblP bs == tblP bs) = true := by simp
  have hpw : [Value.slice Va F.length ca, .slice Vt (tblP bs).length ct, .slice (some ⟨w.heap.size, 0, none⟩) ps.length (ps.length + 1), .slice (some ⟨w1.heap.size, 0, none⟩) bs.length (bs.length + 1)].Pairwise fun u v => ∀ k, u.ownBlock = some k → v.ownBlock ≠ some k := by
    refine List.pairwise_cons.2 ⟨?_, List.pairwise_cons.2 ⟨?_, List.pairwise_cons.2 ⟨?_, List.pairwise_singleton _ _⟩⟩⟩
    · intro u hu
      simp only [List.mem_cons, List.not_mem_nil, or_false] at hu
      rcases hu with rfl | rfl | rfl
      · exact aat
      · exact fun k h1 h2 => a1a k h2 h1
      · exact fun k h1 h2 => a2a k h2 h1
    · intro u hu
      simp only [List.mem_cons, List.not_mem_nil, or_false] at hu
      rcases hu with rfl | rfl
      · exact fun k h1 h2 => a1t k h2 h1
      · exact fun k h1 h2 => a2t k h2 h1
    · intro u hu
      simp only [List.mem_cons, List.not_mem_nil, or_false] at hu
      subst hu
      exact a12
  have hrm : ∀ v ∈ [Value.slice Va F.length ca, .slice Vt (tblP bs).length ct, .slice (some ⟨w.heap.size, 0, none⟩) ps.length (ps.length + 1), .slice (some ⟨w1.heap.size, 0, none⟩) bs.length (bs.length + 1)], Room w'' v False 0 := by
    intro v hv
    simp only [List.mem_cons, List.not_mem_nil, or_false] at hv
    rcases hv with rfl | rfl | rfl | rfl
    · exact Room.own oa6
    · exact Room.own ot6
    · exact Room.own q6
    · exact Room.own o6
  have hlt : ∀ k, OwnB [Value.slice Va F.length ca, .slice Vt (tblP bs).length ct, .slice (some ⟨w.heap.size, 0, none⟩) ps.length (ps.length + 1), .slice (some ⟨w1.heap.size, 0, none⟩) bs.length (bs.length + 1)] k → w.heap.size ≤ k := by
    rintro k ⟨v, hv, h⟩
    simp only [List.mem_cons, List.not_mem_nil, or_false] at hv
    rcases hv with rfl | rfl | rfl | rfl
    · exact Nat.le_trans S2.out (oa6.lt k h).1
    · exact Nat.le_trans S3.out (ot6.lt k h).1
    · exact (q6.lt k h).1
    · exact Nat.le_trans S1.out (o6.lt k h).1
  have how := owned_lit _ #[Value.slice Va F.length ca, .slice Vt (tblP bs).length ct, .slice (some ⟨w.heap.size, 0, none⟩) ps.length (ps.length + 1), .slice (some ⟨w1.heap.size, 0, none⟩) bs.length (bs.length + 1)] 4 w'' rfl rfl (by omega) hrm hpw
  clear aat a1a a2a a1t a2t a12 hpw hrm
  go_wp2_with fail
  refine how.mono ?_
  rintro e w7 ⟨rfl, hout, _⟩
  have bel7 := hout.below ((bel6.trans ((below_alloc w'' _).mono bel6.size))) hlt
  clear how hout hlt oa6 ot6 q6 o6 ow6 ou r6 p6 C6 D6 s1 s2 s3 s4 b6 bel6
  have bel8 : Below w.heap.size w (w7.alloc (.cells #[.int .u8 97, .int .u8 98] 5 (2, 3))) := bel7.trans ((below_alloc w7 _).mono bel7.size)
  go_wp2_with fail
  refine (blob_any _ 2 _ [97, 98] _ rfl (by decide) (RB.block (heap_alloc_new _ _) rfl) (fun h => by cases h)).mono ?_
  rw [blob_ab]
  rintro e w9 ⟨vf, rfl, of, b9⟩
  obtain ⟨Vf, cf, rfl, hcf, hVf⟩ := own_shape of
  have r9 := RB.own of
  have bel9 := below_then bel8 bel8.size b9
  clear of b9 bel8 bel7
  go_wp2_with fail
  refine (code_any cn w9 (hE.below bel9)).mono ?_
  rintro e wa ⟨rfl, ba⟩
  have bela := below_then bel9 bel9.size ba
  go_wp2_with fail
  refine (code_any (tblE bs) wa (hE.below bela)).mono ?_
  rintro e wb ⟨rfl, bb⟩
  have belb := below_then bela bela.size bb
  have s9 : (convert 22 9 (.slice Vf 4 cf)).run Tryd.prog wb = .ok (.string { data := #[1, 2, 97, 98] }) wb := run_str wb _ [1, 2, 97, 98] cf ((r9.below ba).below bb) 9 Tryd.underlying9
  go_wp2_with fail
  go_ret
  exact ⟨rfl, belb⟩
end Go.Proofs.YtocjfiahkdpicaaDoor
