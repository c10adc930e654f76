/- muntinref19.Same at equal entries: true. -/
import Derived.Test.YtkjpfjgaabbggaaDoorTRead
import Derived.Test.YtkjpfjgaabbggaaDoorLent
import Derived.Deep.LoopGhost
import Derived.Outline
set_option linter.unusedVariables false
set_option linter.unusedSimpArgs false
namespace Go.Proofs.YtkjpfjgaabbggaaDoor
open Go.RowKit

set_option maxRecDepth 100000 in
set_option maxHeartbeats 4000000 in
theorem same_any (A B : Option Addr) (n ca cb : Nat) (es : List Ent) (Da Db : List Value) (w : World) (ha : RE w A es Da) (hb : RE w B es Db) (hl : es.length = n) (hn : n ≤ 10000000000000) :
    Calls Tryd.prog 13 #[.slice A n ca, .slice B n cb] w fun e w' => e = .returned (.bool true) ∧ ∃ m, w' = w.drewN m := by
  have HA := Lib.hid ha
  have HB := Lib.hid hb
  have HL := Lib.hid hl
  clear ha hb hl
  go_enter Tryd.func13, Tryd.ntmps13
  go_wp2_with fail
  go_loopg [5] n (fun m ki wr => ∃ k : Nat, m = n - k ∧ k ≤ n ∧ ki = .int .i64 k ∧ ∃ q, wr = w.drewN q)
  case atStart => exact ⟨0, by omega, by omega, rfl, 0, rfl⟩
  case round =>
    obtain ⟨k, hm, hk, rfl, q, rfl⟩ := hrel
    by_cases hkl : k < n
    · have hkl1 : (k : Int) < (n : Int) := by omega
      have hke : k < es.length := by rw [HL.out]; exact hkl
      obtain ⟨g, o, rfl, hg, -⟩ := HA.out.addr (by omega)
      obtain ⟨g', o', rfl, hg', -⟩ := HB.out.addr (by omega)
      obtain ⟨a0, a1, a2, a3, S, cs, hSe, hSr, -⟩ := HA.out.at k hke
      obtain ⟨b0, b1, b2, b3, S', cs', hSe', hSr', -⟩ := HB.out.at k hke
      rw [hSe] at a3
      rw [hSe'] at b3
      obtain ⟨E, hE⟩ : ∃ E, E = es[k] := ⟨_, rfl⟩
      rw [← hE] at a0 a1 a2 a3 b0 b1 b2 b3 hSr hSr'
      obtain ⟨ei, et, ek, ed⟩ := E
      simp only at a0 a1 a2 a3 b0 b1 b2 b3 hSr hSr'
      clear hSe hSe' hE
      have f0 : ∀ m, (w.drewN m).cell? ⟨g, o + k * 4, none⟩ = some (.int .i64 ei) := fun m => a0
      have f1 : ∀ m, (w.drewN m).cell? ⟨g, o + k * 4 + 1, none⟩ = some (.int .i64 et) := fun m => a1
      have f2 : ∀ m, (w.drewN m).cell? ⟨g, o + k * 4 + 2, none⟩ = some (.int .i64 ek) := fun m => a2
      have f3 : ∀ m, (w.drewN m).cell? ⟨g, o + k * 4 + 3, none⟩ = some (.slice S ed.length cs) := fun m => a3
      have g0 : ∀ m, (w.drewN m).cell? ⟨g', o' + k * 4, none⟩ = some (.int .i64 ei) := fun m => b0
      have g1 : ∀ m, (w.drewN m).cell? ⟨g', o' + k * 4 + 1, none⟩ = some (.int .i64 et) := fun m => b1
      have g2 : ∀ m, (w.drewN m).cell? ⟨g', o' + k * 4 + 2, none⟩ = some (.int .i64 ek) := fun m => b2
      have g3 : ∀ m, (w.drewN m).cell? ⟨g', o' + k * 4 + 3, none⟩ = some (.slice S' ed.length cs') := fun m => b3
      have e1 := fun m => run_str (w.drewN m) S ed cs (hSr.drewN m) 9 Tryd.underlying9
      have e2 := fun m => run_str (w.drewN m) S' ed cs' (hSr'.drewN m) 9 Tryd.underlying9
      have t0 : (ei != ei) = false := by simp
      have t1 : (et != et) = false := by simp
      have t2 : (ek != ek) = false := by simp
      have t3 : (ed != ed) = false := by simp
      clear a0 a1 a2 a3 b0 b1 b2 b3 hSr hSr'
      go_wp2_with fail
      go_quiet (fail)
      clear f0 f1 f2 f3 g0 g1 g2 g3 e1 e2
      go_wp2_with fail
      go_roundg (n - (k + 1))
      case measure => omega
      case rel => exact ⟨k + 1, rfl, by omega, by go_num, _, rfl⟩
    · obtain rfl : k = n := by omega
      go_wp2_with fail
      go_ret
      exact ⟨rfl, _, rfl⟩
end Go.Proofs.YtkjpfjgaabbggaaDoor
