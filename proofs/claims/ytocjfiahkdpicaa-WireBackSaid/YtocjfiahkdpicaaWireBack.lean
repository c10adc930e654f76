/- muntinlaw01.WireBack is true, whatever the number and the bytes: the law's own walk. Printed by this project's own back.py. -/
import Derived.Test.YtocjfiahkdpicaaWireBack00
import Derived.Test.YtocjfiahkdpicaaWireBack01
import Derived.Test.YtocjfiahkdpicaaWireBack10
import Derived.Test.YtocjfiahkdpicaaWireBack11
import Derived.OpenShut
set_option linter.unusedVariables false
set_option linter.unusedSimpArgs false
namespace Go.Proofs.Ytocjfiahkdpicaa
open Go.RowKit

set_option maxRecDepth 100000 in
set_option maxHeartbeats 1000000 in
theorem wireBack_walk (n : Int) (A : Option Addr) (c : Nat) (ps : List UInt8) (B : Option Addr) (cb : Nat) (bs : List UInt8) (w : World) (wn : (Lit.int .i64 n).wf = true)
    (hl : ps.length ≤ c) (hc : c ≤ 140737488351232) (hrp : RB w A ps) (hA : A = none → c = 0) (hlb : bs.length ≤ cb) (hncb : cb ≤ 140737488351232) (hrb : RB w B bs) (hB : B = none → cb = 0) :
    Calls Try.prog 7 #[.int .i64 n, .slice A ps.length c, .slice B bs.length cb] w fun e w' => e = .returned (.bool true) ∧ Below w.heap.size w w' := by
  by_cases hb : 1048576 < bs.length
  · have hbd : decide ((1048576 : Int) < (bs.length : Int)) = true := decide_eq_true (by omega)
    go_enter Try.func7, Try.ntmps7
    go_wp2_with fail
    go_ret
    exact ⟨rfl, Below.refl _ _⟩
  · by_cases hp : 1048576 < ps.length
    · have hbd : decide ((1048576 : Int) < (bs.length : Int)) = false := decide_eq_false (by omega)
      have hpd : decide ((1048576 : Int) < (ps.length : Int)) = true := decide_eq_true (by omega)
      go_enter Try.func7, Try.ntmps7
      go_wp2_with fail
      go_ret
      exact ⟨rfl, Below.refl _ _⟩
    · have bn := bounds_i64 wn
      by_cases h1 : n < 0
      · by_cases h2 : ps.length ≤ 65536
        · by_cases h3 : takeE bs = 0
          · by_cases h4 : tblE bs = 0
            · exact wireBack_0111 n h1 A c ps B cb bs w hA hB hlb hncb (by omega) (by omega) hrp hrb (by omega) (Lib.hid h3) (Lib.hid h4)
            · exact wireBack_0110 n h1 A c ps B cb bs w hA hB hlb hncb (by omega) (by omega) hrp hrb (by omega) (Lib.hid h3) (Lib.hid h4)
          · by_cases h4 : tblE bs = 0
            · exact wireBack_0101 n h1 A c ps B cb bs w hA hB hlb hncb (by omega) (by omega) hrp hrb (by omega) (Lib.hid h3) (Lib.hid h4)
            · exact wireBack_0100 n h1 A c ps B cb bs w hA hB hlb hncb (by omega) (by omega) hrp hrb (by omega) (Lib.hid h3) (Lib.hid h4)
        · by_cases h3 : takeE bs = 0
          · by_cases h4 : tblE bs = 0
            · exact wireBack_0011 n h1 A c ps B cb bs w hA hB hlb hncb (by omega) (by omega) hrp hrb (by omega) (Lib.hid h3) (Lib.hid h4)
            · exact wireBack_0010 n h1 A c ps B cb bs w hA hB hlb hncb (by omega) (by omega) hrp hrb (by omega) (Lib.hid h3) (Lib.hid h4)
          · by_cases h4 : tblE bs = 0
            · exact wireBack_0001 n h1 A c ps B cb bs w hA hB hlb hncb (by omega) (by omega) hrp hrb (by omega) (Lib.hid h3) (Lib.hid h4)
            · exact wireBack_0000 n h1 A c ps B cb bs w hA hB hlb hncb (by omega) (by omega) hrp hrb (by omega) (Lib.hid h3) (Lib.hid h4)
      · obtain ⟨n, rfl⟩ := Int.eq_ofNat_of_zero_le (show 0 ≤ n by omega)
        by_cases h2 : ps.length ≤ 65536
        · by_cases h3 : takeE bs = 0
          · by_cases h4 : tblE bs = 0
            · exact wireBack_1111 n (Lib.hid (by omega)) A c ps B cb bs w hA hB hlb hncb (by omega) (by omega) hrp hrb (by omega) (Lib.hid h3) (Lib.hid h4)
            · exact wireBack_1110 n (Lib.hid (by omega)) A c ps B cb bs w hA hB hlb hncb (by omega) (by omega) hrp hrb (by omega) (Lib.hid h3) (Lib.hid h4)
          · by_cases h4 : tblE bs = 0
            · exact wireBack_1101 n (Lib.hid (by omega)) A c ps B cb bs w hA hB hlb hncb (by omega) (by omega) hrp hrb (by omega) (Lib.hid h3) (Lib.hid h4)
            · exact wireBack_1100 n (Lib.hid (by omega)) A c ps B cb bs w hA hB hlb hncb (by omega) (by omega) hrp hrb (by omega) (Lib.hid h3) (Lib.hid h4)
        · by_cases h3 : takeE bs = 0
          · by_cases h4 : tblE bs = 0
            · exact wireBack_1011 n (Lib.hid (by omega)) A c ps B cb bs w hA hB hlb hncb (by omega) (by omega) hrp hrb (by omega) (Lib.hid h3) (Lib.hid h4)
            · exact wireBack_1010 n (Lib.hid (by omega)) A c ps B cb bs w hA hB hlb hncb (by omega) (by omega) hrp hrb (by omega) (Lib.hid h3) (Lib.hid h4)
          · by_cases h4 : tblE bs = 0
            · exact wireBack_1001 n (Lib.hid (by omega)) A c ps B cb bs w hA hB hlb hncb (by omega) (by omega) hrp hrb (by omega) (Lib.hid h3) (Lib.hid h4)
            · exact wireBack_1000 n (Lib.hid (by omega)) A c ps B cb bs w hA hB hlb hncb (by omega) (by omega) hrp hrb (by omega) (Lib.hid h3) (Lib.hid h4)
end Go.Proofs.Ytocjfiahkdpicaa
