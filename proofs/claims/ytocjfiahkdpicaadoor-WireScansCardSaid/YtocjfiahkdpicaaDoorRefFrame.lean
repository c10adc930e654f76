/- muntinref01.Frame: the reference's frame. -/
import Derived.Test.YtocjfiahkdpicaaDoorRefBlob
import Derived.Test.YtocjfiahkdpicaaDoorSumRef
import Derived.Test.YtocjfiahkdpicaaDoorOpenFrame
set_option linter.unusedVariables false
set_option linter.unusedSimpArgs false
namespace Go.Proofs.YtocjfiahkdpicaaDoor
open Go.RowKit

set_option maxRecDepth 100000 in
set_option maxHeartbeats 1000000 in
theorem four_any (n : Nat) (w : World) (hn : n < 4294967296) :
    Calls Tryd.prog 31 #[.int .i64 n] w fun e w' => e = .returned (.slice (some ⟨w.heap.size, 0, none⟩) 4 4) ∧ w' = w.alloc (.cells (mem (bv (four n))) 5) := by
  obtain ⟨q1, e1⟩ : ∃ q, q = n / 16777216 := ⟨_, rfl⟩
  obtain ⟨q2, e2⟩ : ∃ q, q = n / 65536 := ⟨_, rfl⟩
  obtain ⟨q3, e3⟩ : ∃ q, q = n / 256 := ⟨_, rfl⟩
  have h1 : (n : Int) / 16777216 = (q1 : Int) := by omega
  have h2 : (n : Int) / 65536 = (q2 : Int) := by omega
  have h3 : (n : Int) / 256 = (q3 : Int) := by omega
  have l1 : (q1 : Int) ≤ 255 := by omega
  have l2 : (q2 : Int) ≤ 4294967295 := by omega
  have l3 : (q3 : Int) ≤ 4294967295 := by omega
  have b1 : (q1 : Int) = ((UInt8.ofNat q1).toNat : Int) := by simp; omega
  have HB := Lib.hid b1
  have b2 : (q2 : Int) % 256 = ((UInt8.ofNat q2).toNat : Int) := by simp
  have b3 : (q3 : Int) % 256 = ((UInt8.ofNat q3).toNat : Int) := by simp
  have b4 : (n : Int) % 256 = ((UInt8.ofNat n).toNat : Int) := by simp
  have ef : four n = [UInt8.ofNat q1, UInt8.ofNat q2, UInt8.ofNat q3, UInt8.ofNat n] := by unfold four; rw [e1, e2, e3]
  rw [ef]
  clear b1
  generalize UInt8.ofNat q1 = c1 at HB ⊢
  generalize UInt8.ofNat q2 = c2 at b2 ⊢
  generalize UInt8.ofNat q3 = c3 at b3 ⊢
  generalize UInt8.ofNat n = c4 at b4 ⊢
  clear e1 e2 e3 ef
  go_enter Tryd.func31, Tryd.ntmps31
  go_wp2_with fail
  go_ret
  rw [HB.out]
  exact ⟨rfl, rfl⟩

theorem own_belowF {w w' : World} {b n : Nat} {e : TypeId} {s : Nat} {v : Value} {xs : List Value} (h : w.ownsRow b e s v n xs) (hb : Below w.heap.size w w') : w'.ownsRow b e s v n xs :=
  h.kept (row := none) ⟨hb.os, hb.tape, hb.output, hb.size, fun k hk _ => hb.block k hk⟩ (by cases h : v.ownBlock <;> simp)
theorem rframe_long (A : Option Addr) (n c : Nat) (w : World) (h : 1048576 < n) (hn : n ≤ 140737488351232) :
    Calls Tryd.prog 13 #[.slice A n c] w fun e w' => e = .returned (.tuple #[.slice none 0 0, .int .i64 2]) ∧ w' = w := by
  go_enter Tryd.func13, Tryd.ntmps13
  go_wp2_with fail
  go_ret2
  exact ⟨rfl, rfl⟩

set_option maxRecDepth 100000 in
set_option maxHeartbeats 1000000 in
theorem rframe_any (A : Option Addr) (c : Nat) (bs : List UInt8) (w : World) (h : bs.length ≤ 1048576) (hr : RB w A bs) (hA : A = none → c = 0) :
    Calls Tryd.prog 13 #[.slice A bs.length c] w fun e w' => ∃ v, e = .returned (.tuple #[v, .int .i64 0]) ∧ w'.ownsRow w.heap.size 5 1 v (frame bs).length (bv (frame bs)) ∧ Below w.heap.size w w' := by
  have hfl := four_length bs.length
  have hef : frame bs = (four bs.length ++ bs) ++ four (crc (four bs.length ++ bs)) := rfl
  have h4 := fun w => four_any bs.length w (by omega)
  have hlt := crc_lt (four bs.length ++ bs)
  have h5 := fun w => four_any (crc (four bs.length ++ bs)) w hlt
  have hfl2 := four_length (crc (four bs.length ++ bs))
  rw [hef]
  obtain ⟨D, hD⟩ : ∃ D, D = four bs.length ++ bs := ⟨_, rfl⟩
  rw [← hD] at h5 hlt hfl2 ⊢
  generalize four bs.length = f1 at hD h4 hfl
  generalize hcr : crc D = s at h5 hfl2 ⊢
  generalize four s = f2 at h5 hfl2 ⊢
  have HD := Lib.hid hD
  have HCR := Lib.hid hcr
  clear hef hD hcr hlt
  go_enter Tryd.func13, Tryd.ntmps13
  go_wp2_with fail
  refine (h4 w).mono ?_
  rintro e w1 ⟨rfl, hw1⟩
  have b1 : Below w.heap.size w w1 := by rw [hw1]; exact below_alloc _ _
  have o1 : w1.ownsRow w.heap.size 5 1 (.slice (some ⟨w.heap.size, 0, none⟩) 4 4) 4 (bv f1) := by
    rw [hw1]
    have := own_new w f1 5 (by unfold maxLen; omega)
    rw [hfl] at this
    exact this
  clear hw1 h4
  have HF1 := Lib.hid hfl
  have HF2 := Lib.hid hfl2
  clear hfl hfl2
  have hDl : Hid (D.length = 4 + bs.length) := Lib.hid (by rw [HD.out, List.length_append, HF1.out])
  have hDb : D.length ≤ 1048580 := by have := hDl.out; omega
  go_wp2_with (at_builtin; refine wpList_append_bytes rfl (.tmp 11) (.tmp 12) rfl w.heap.size (.slice (some ⟨w.heap.size, 0, none⟩) 4 4) f1 bs 4 bs.length c A rfl rfl o1 (hr.below b1) rfl hA HF1.out (by omega) b1.size ?_
               intro v2 w2 o2 hg2
               have b2 : Below w.heap.size w w2 := b1.grown hg2 b1.size (fun q hq => (o1.lt q hq).1)
               rw [← HD.out, ← hDl.out] at o2
               obtain ⟨V, cv, rfl, hcv, hVn⟩ := own_shape o2
               have r2 := RB.own o2)
  clear o1 hg2 b1
  refine (refsum_any V cv D w2 (by omega) r2).mono ?_
  rw [HCR.out]
  rintro e w' ⟨rfl, rfl⟩
  go_wp2_with fail
  refine (h5 w').mono ?_
  rintro e w3 ⟨rfl, hw3⟩
  have b3 : Below w'.heap.size w' w3 := by rw [hw3]; exact below_alloc _ _
  have r3 : RB w3 (some ⟨w'.heap.size, 0, none⟩) f2 := by rw [hw3]; exact RB.new0 _ _ _
  have o3 := own_belowF o2 b3
  have bel3 := below_then b2 b2.size b3
  clear hw3 h5 o2
  go_wp2_with (at_builtin; refine wpList_append_bytes rfl (.tmp 16) (.tmp 18) rfl w.heap.size (.slice V D.length cv) D f2 D.length 4 4 (some ⟨w'.heap.size, 0, none⟩) rfl rfl o3 r3 HF2.out (fun h => by cases h) rfl (by omega) bel3.size ?_; intro v4 w4 o4 hg4)
  go_ret2
  exact ⟨v4, rfl, by rw [List.length_append, HF2.out]; exact o4, bel3.grown hg4 bel3.size (fun q hq => (o3.lt q hq).1)⟩

set_option maxRecDepth 100000 in
set_option maxHeartbeats 1000000 in
theorem number_rb (A : Option Addr) (len cap : Nat) (bs : List UInt8) (w : World) (hl : bs.length = len) (h4 : 4 ≤ len) (hr : RB w A bs) :
    Calls Tryd.prog 34 #[.slice A len cap] w fun e w' => e = .returned (.int .i64 (numAt bs 0)) ∧ Below w.heap.size w w' := by
  subst hl
  obtain ⟨g, o, rfl, _, hc⟩ := hr.addr (by omega)
  have e : ∀ i (hi : i < bs.length), bs.getD i 0 = bs[i] := fun i hi => by simp [List.getD, hi]
  have c0 : ∀ m, (w.drewN m).cell? ⟨g, o, none⟩ = some (.int .u8 (bs.getD 0 0).toNat) := fun m => by rw [e 0 (by omega)]; exact hc 0 (by omega)
  have c1 : ∀ m, (w.drewN m).cell? ⟨g, o + 1, none⟩ = some (.int .u8 (bs.getD 1 0).toNat) := fun m => by rw [e 1 (by omega)]; exact hc 1 (by omega)
  have c2 : ∀ m, (w.drewN m).cell? ⟨g, o + 2, none⟩ = some (.int .u8 (bs.getD 2 0).toNat) := fun m => by rw [e 2 (by omega)]; exact hc 2 (by omega)
  have c3 : ∀ m, (w.drewN m).cell? ⟨g, o + 3, none⟩ = some (.int .u8 (bs.getD 3 0).toNat) := fun m => by rw [e 3 (by omega)]; exact hc 3 (by omega)
  have l0 : (0 : Int) < (bs.length : Int) := by omega
  have l1 : (1 : Int) < (bs.length : Int) := by omega
  have l2 : (2 : Int) < (bs.length : Int) := by omega
  have l3 : (3 : Int) < (bs.length : Int) := by omega
  have hnum : ((numAt bs 0 : Nat) : Int) = ((bs.getD 0 0).toNat : Int) * 16777216 + ((bs.getD 1 0).toNat : Int) * 65536 + ((bs.getD 2 0).toNat : Int) * 256 + ((bs.getD 3 0).toNat : Int) := by
    simp only [numAt, num4, Nat.zero_add]
    omega
  rw [hnum]
  clear hnum e hc hr
  have k0 := (bs.getD 0 0).toNat_lt
  have k1 := (bs.getD 1 0).toNat_lt
  have k2 := (bs.getD 2 0).toNat_lt
  have k3 := (bs.getD 3 0).toNat_lt
  generalize (bs.getD 0 0).toNat = x0 at c0 k0 ⊢
  generalize (bs.getD 1 0).toNat = x1 at c1 k1 ⊢
  generalize (bs.getD 2 0).toNat = x2 at c2 k2 ⊢
  generalize (bs.getD 3 0).toNat = x3 at c3 k3 ⊢
  go_enter Tryd.func34, Tryd.ntmps34
  go_wp2_with fail
  go_quiet (fail)
  go_wp2_with fail
  go_ret
  exact ⟨rfl, ⟨rfl, rfl, rfl, Nat.le_refl _, fun _ _ => rfl⟩⟩
end Go.Proofs.YtocjfiahkdpicaaDoor
