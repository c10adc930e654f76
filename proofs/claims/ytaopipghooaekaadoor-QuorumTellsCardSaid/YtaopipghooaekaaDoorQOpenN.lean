/- What an argument reads as: numbers; a configuration; a nil slice has no room. -/
import Derived.Test.YtaopipghooaekaaDoorQInts
import Derived.ProofKit
import Derived.OpenShut
import Derived.ChangeOld
import Derived.ChangeSame
import Derived.Below
import Derived.SizedLaws
set_option linter.unusedVariables false
set_option linter.unusedSimpArgs false
namespace Go.Proofs.YtaopipghooaekaaDoor
open Go.ChangeShapes Go.WideShapes Go.RowKit

/-- A []int argument: its numbers, and how many there may be. -/
theorem open_int_listn {H : Type} {enc : TypeId × Value → H} {W : World} {ts : List TypeId} {ds : List (DataW H)} {j : Nat} {a : Option Addr} {len cap : Nat} {d : DataW H} {p : List MemPlace}
    (hsz : (DataW.weightsEach Tryd.prog ts ds).all (· ≤ reachBytes) = true) (ht : ts[j]? = some 22) (hd : ds[j]? = some d)
    (h : DataW.Trod enc Tryd.prog W 0 (fun _ => true) true 22 (.slice a len cap) d p) :
    ∃ xs : List Int, len = xs.length ∧ RI W a xs ∧ len ≤ cap ∧ cap ≤ 17592186044416 ∧ (a = none → cap = 0) := by
  obtain ⟨fuel, hf⟩ := h
  rcases open_ints Tryd.underlying22 Tryd.underlying3 (by kernel_rfl) hf with ⟨hcs, _⟩ | ⟨x, l, c, zs, hcs, _, hl, hm, hz, hx, hcell, hwz⟩
  · simp [Value.cells] at hcs
    obtain ⟨rfl, rfl, rfl⟩ := hcs
    exact ⟨[], rfl, RI.nil _ _, by omega, by omega, fun _ => rfl⟩
  · simp [Value.cells] at hcs
    obtain ⟨rfl, rfl, rfl⟩ := hcs
    have hz' : zs.length = cap := by simpa using hz
    refine ⟨zs.take len, by simp; omega, fun i hi => ⟨x, rfl, ?_⟩, hl, ?_, fun h => by cases h⟩
    · have hi' : i < len := by simp at hi; omega
      rw [hcell i (by omega)]
      simp [List.getD, List.getElem?_eq_getElem (show i < zs.length by omega)]
    · simp only [Prod.mk.injEq] at hx
      obtain ⟨rfl, _⟩ := hx
      have hw := sized_slice hsz ht hd Tryd.underlying22
      have hb : Tryd.prog.bytesOf 3 = 8 := by kernel_rfl
      rw [hb] at hw
      simp [lits, hz'] at hw
      have : reachBytes = 140737488351232 := rfl
      omega

set_option maxRecDepth 100000 in
/-- A configuration. -/
theorem open_confn {H : Type} {enc : TypeId × Value → H} {W : World} {ts : List TypeId} {ds : List (DataW H)} {j : Nat} {v : Value} {d : DataW H} {p : List MemPlace}
    (hok : Value.okWide Tryd.prog W .any 0 24 v)
    (hsz : (DataW.weightsEach Tryd.prog ts ds).all (· ≤ reachBytes) = true) (ht : ts[j]? = some 24) (hd : ds[j]? = some d)
    (h : DataW.Trod enc Tryd.prog W 0 (fun _ => true) true 24 v d p) :
    ∃ a cap, ∃ xs : List Int, v = .agg #[.slice a xs.length cap] ∧ RI W a xs ∧ xs.length ≤ cap ∧ cap ≤ 17592186044416 ∧ (a = none → cap = 0) := by
  obtain ⟨cs, rfl, hcs⟩ := okWide_struct Tryd.underlying24 hok
  obtain ⟨fuel, hf⟩ := h
  obtain ⟨y0, m, he, hl, h0⟩ := trod_struct1 Tryd.underlying24 hf
  have hc : Tryd.prog.cellsOf 24 = 1 := by kernel_rfl
  rw [hc] at hcs
  obtain ⟨x, rfl⟩ : ∃ x, cs = #[x] := by
    match cs, hcs with
    | ⟨[x]⟩, _ => exact ⟨x, rfl⟩
  have hi : Tryd.prog.cellsOf 22 = 1 := by kernel_rfl
  have hsz2 : (DataW.weightsEach Tryd.prog [22] [y0.1]).all (· ≤ reachBytes) = true := by
    rw [List.all_eq_true] at hsz ⊢
    intro n hn
    refine hsz n (DataW.weights_mem_each ht hd n ?_)
    simp only [Prod.mk.injEq] at he
    rw [he.1]
    simp only [DataW.weights, Tryd.underlying24]
    exact hn
  have h1 : DataW.trod enc Tryd.prog W 0 (fun _ => true) true m 22 [x] = some y0 := by
    have h2 : (([x] : List Value).drop 0).take (Tryd.prog.cellsOf 22) = [x] := by rw [hi]; rfl
    rw [← h2]
    exact h0
  have h3 : ∃ a l c, x = .slice a l c := by
    rcases open_ints Tryd.underlying22 Tryd.underlying3 (by kernel_rfl) h1 with ⟨hcs, _⟩ | ⟨b, l, c, zs, hcs, _⟩
    · exact ⟨none, 0, 0, by simpa using hcs⟩
    · exact ⟨some b, l, c, by simpa using hcs⟩
  obtain ⟨a, l, c, rfl⟩ := h3
  obtain ⟨xs, rfl, h4, h5, h6, h7⟩ := open_int_listn (j := 0) hsz2 rfl rfl ⟨m, h1⟩
  exact ⟨a, c, xs, rfl, h4, h5, h6, h7⟩
end Go.Proofs.YtaopipghooaekaaDoor
