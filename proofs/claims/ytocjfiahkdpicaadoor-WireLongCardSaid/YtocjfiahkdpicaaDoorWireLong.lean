/- muntinlaw01.WireLong is true, whatever the number: the law's own walk. -/
import Derived.Test.YtocjfiahkdpicaaDoorCodeAny
import Derived.Test.YtocjfiahkdpicaaDoorNum
import Derived.OpenShut
import Derived.Deep.LoopGhost
set_option linter.unusedVariables false
set_option linter.unusedSimpArgs false
namespace Go.Proofs.YtocjfiahkdpicaaDoor
open Go.RowKit

set_option maxHeartbeats 1000000 in
theorem wireLong_walk (n : Int) (w : World) (hn : (Lit.int .i64 n).wf = true) (hg : ErrT w) :
    Calls Tryd.prog 3 #[.int .i64 n] w fun e w' => e = .returned (.bool true) ∧ Below w.heap.size w w' := by
  have bn := Lib.hid (bounds_i64 hn)
  by_cases h0 : n < 0
  · go_enter Tryd.func3, Tryd.ntmps3
    go_wp2_with fail
    refine (num_neg n _ h0).mono ?_
    rintro e w' ⟨rfl, rfl⟩
    go_wp2_with fail
    refine (code_any 1 w' hg).mono ?_
    rintro e w2 ⟨rfl, b2⟩
    go_wp2_with fail
    go_ret
    exact ⟨rfl, b2⟩
  · obtain ⟨n, rfl⟩ := Int.eq_ofNat_of_zero_le (show 0 ≤ n by omega)
    have hlen := digs_len8 n (by have := bn.out; omega)
    have hnl := numb_length n
    go_enter Tryd.func3, Tryd.ntmps3
    go_wp2_with fail
    refine (num_any n _ (Lib.hid (by have := bn.out; omega))).mono ?_
    rintro e w2 ⟨rfl, hw2⟩
    have b2 : Below w.heap.size w w2 := by rw [hw2]; exact below_alloc _ _
    have c2 : w2.cell? ⟨w.heap.size, 0, none⟩ = some (.int .u8 ((digs n).length : Nat)) := by
      rw [hw2]
      refine (cell_new _ _ _ 0 _ ?_)
      have e : (numb n)[0]? = some (UInt8.ofNat (digs n).length) := rfl
      simp only [bv, List.getElem?_map, e, Option.map_some, UInt8.toNat_ofNat']
      congr 3
      omega
    clear hw2
    have bn2 : Hid (n < 9223372036854775808) := Lib.hid (by have := bn.out; omega)
    clear bn hn
    go_wp2_with fail
    go_loopg [5, 6] (digs n).length (fun m k rest wr => ∃ (r j : Nat), m = (digs r).length ∧ k = .int .i64 (j : Nat) ∧ j + (digs r).length = 1 + (digs n).length ∧ rest = .int .i64 (r : Nat) ∧ Hid (r ≤ n) ∧ wr = w2)
    case atStart => exact ⟨n, 1, rfl, rfl, rfl, rfl, Lib.hid (Nat.le_refl _), rfl⟩
    case round =>
      obtain ⟨r, j, hm, rfl, hj, rfl, hr, rfl⟩ := hrel
      by_cases h : r = 0
      · subst h
        rw [digs_zero] at hj
        obtain rfl : j = 1 + (digs n).length := by simpa using hj
        clear hj hm
        have hge : (0 : Int) ≤ ((digs n).length : Int) := by omega
        have heq : (((digs n).length : Int) == 1 + ((digs n).length : Int) - 1) = true := beq_iff_eq.2 (by omega)
        go_wp2_with fail
        go_ret
        exact ⟨rfl, b2⟩
      · have hd := digs_pos r h
        have hl : (digs r).length = (digs (r / 256)).length + 1 := by rw [hd]; simp
        have hrp : (0 : Int) < (r : Int) := by omega
        have hj9 : (j : Int) ≤ 9 := by omega
        have hr2 : Hid ((r : Int) ≤ 9223372036854775807) := Lib.hid (by have := hr.out; have := bn2.out; omega)
        clear hd
        go_wp2_with fail
        go_roundg (digs (r / 256)).length
        case measure => omega
        case rel => exact ⟨r / 256, j + 1, rfl, by go_num, by omega, by go_num, Lib.hid (by have := hr.out; omega), rfl⟩
end Go.Proofs.YtocjfiahkdpicaaDoor
