/- muntinlaw01.WireScans is true, whatever the rows, the place, the change, the cut and the tail: its cases joined. -/
import Derived.Test.YtocjfiahkdpicaaDoorScansa0
import Derived.Test.YtocjfiahkdpicaaDoorScansa1
import Derived.Test.YtocjfiahkdpicaaDoorScansa2
import Derived.Test.YtocjfiahkdpicaaDoorScansb0
import Derived.Test.YtocjfiahkdpicaaDoorScansb1
import Derived.Test.YtocjfiahkdpicaaDoorScansb2
set_option linter.unusedVariables false
set_option linter.unusedSimpArgs false
namespace Go.Proofs.YtocjfiahkdpicaaDoor
open Go.RowKit

theorem wireScans_walk (A : Option Addr) (c : Nat) (rows : List (List UInt8)) (at_ y cut : Int) (B : Option Addr) (d : Nat) (ts : List UInt8) (w : World) (hl : rows.length ≤ c) (hc : c ≤ 140737488351232) (hr : RR w A rows)
    (wa : (Lit.int .i64 at_).wf = true) (wy : (Lit.int .u8 y).wf = true) (wc : (Lit.int .i64 cut).wf = true) (hl2 : ts.length ≤ d) (hd : d ≤ 140737488351232) (hr2 : RB w B ts) (hB : B = none → d = 0) (hE : ErrT w) :
    Calls Tryd.prog 5 #[.slice A rows.length c, .int .i64 at_, .int .u8 y, .int .i64 cut, .slice B ts.length d] w fun e w' => e = .returned (.bool true) ∧ Below w.heap.size w w' := by
  obtain ⟨N, hN⟩ : ∃ n, n = (frames (rows.take (min rows.length 30))).length + ts.length := ⟨_, rfl⟩
  by_cases hrow : rows.length ≤ 30
  · by_cases h0 : at_ < 0
    · exact scans_a0 A c rows at_ y cut B d ts w hl hc hr wa wy wc hl2 hd hr2 hB hE hrow (fun _ _ => h0)
    · by_cases h1 : at_ < (N : Int)
      · exact scans_a2 A c rows at_ y cut B d ts w hl hc hr wa wy wc hl2 hd hr2 hB hE hrow (fun n hn => ⟨at_.toNat, by omega, by omega⟩)
      · exact scans_a1 A c rows at_ y cut B d ts w hl hc hr wa wy wc hl2 hd hr2 hB hE hrow (fun n hn => ⟨by omega, by omega⟩)
  · by_cases h0 : at_ < 0
    · exact scans_b0 A c rows at_ y cut B d ts w hl hc hr wa wy wc hl2 hd hr2 hB hE (by omega) (fun _ _ => h0)
    · by_cases h1 : at_ < (N : Int)
      · exact scans_b2 A c rows at_ y cut B d ts w hl hc hr wa wy wc hl2 hd hr2 hB hE (by omega) (fun n hn => ⟨at_.toNat, by omega, by omega⟩)
      · exact scans_b1 A c rows at_ y cut B d ts w hl hc hr wa wy wc hl2 hd hr2 hB hE (by omega) (fun n hn => ⟨by omega, by omega⟩)
end Go.Proofs.YtocjfiahkdpicaaDoor
