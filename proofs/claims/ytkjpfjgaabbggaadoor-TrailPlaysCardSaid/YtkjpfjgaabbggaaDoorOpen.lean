/- What an argument reads as: bytes. -/
import Derived.Test.YtkjpfjgaabbggaaDoorBase
import Derived.ProofKit
import Derived.OpenShut
import Derived.ShutString
import Derived.ChangeOld
import Derived.Below
import Derived.SizedLaws
set_option linter.unusedVariables false
set_option linter.unusedSimpArgs false
namespace Go.Proofs.YtkjpfjgaabbggaaDoor
open Go.ChangeShapes Go.WideShapes Go.RowKit

theorem wf_u8 {n : Int} (h : (Lit.int .u8 n).wf = true) : 0 ≤ n ∧ n < 256 := by
  have := bounds_u8 h
  omega

theorem bytes_of_ints {W : World} {x : Addr} {len cap : Nat} {zs : List Int} (hl : len ≤ cap) (hz : zs.length = cap)
    (hcell : ∀ i, i < zs.length → W.cell? (x.add i) = some (.int .u8 (zs.getD i 0))) (hwz : ∀ n ∈ zs, (Lit.int .u8 n).wf = true) :
    ∃ bs : List UInt8, len = bs.length ∧ RB W (some x) bs := by
  refine ⟨(zs.take len).map fun n => UInt8.ofNat n.toNat, by simp; omega, fun i hi => ⟨x, rfl, ?_⟩⟩
  have hi' : i < len := by simp at hi; omega
  rw [hcell i (by omega)]
  have hb := wf_u8 (hwz zs[i] (List.getElem_mem (by omega)))
  have e : (((zs.take len).map fun n => UInt8.ofNat n.toNat)[i]).toNat = zs[i].toNat := by
    simp only [List.getElem_map, List.getElem_take, UInt8.toNat_ofNat']
    omega
  rw [e]
  simp only [List.getD, List.getElem?_eq_getElem (show i < zs.length by omega), Option.getD_some]
  congr 2
  omega

/-- A []byte argument: its bytes, and how many there may be. -/
theorem open_bytes {H : Type} {enc : TypeId × Value → H} {W : World} {ts : List TypeId} {ds : List (DataW H)} {j : Nat} {a : Option Addr} {len cap : Nat} {d : DataW H} {p : List MemPlace}
    (hsz : (DataW.weightsEach Tryd.prog ts ds).all (· ≤ reachBytes) = true) (ht : ts[j]? = some 42) (hd : ds[j]? = some d)
    (h : DataW.Trod enc Tryd.prog W 0 (fun _ => true) true 42 (.slice a len cap) d p) :
    ∃ bs : List UInt8, len = bs.length ∧ RB W a bs ∧ len ≤ cap ∧ cap ≤ 140737488351232 := by
  obtain ⟨fuel, hf⟩ := h
  rcases open_ints Tryd.underlying42 Tryd.underlying5 (by kernel_rfl) hf with ⟨hcs, _⟩ | ⟨x, l, c, zs, hcs, _, hl, hm, hz, hx, hcell, hwz⟩
  · simp [Value.cells] at hcs
    obtain ⟨rfl, rfl, rfl⟩ := hcs
    exact ⟨[], rfl, RB.nil _ _, by omega, by omega⟩
  · simp [Value.cells] at hcs
    obtain ⟨rfl, rfl, rfl⟩ := hcs
    have hz' : zs.length = cap := by simpa using hz
    obtain ⟨bs, h1, h2⟩ := bytes_of_ints hl hz' hcell hwz
    refine ⟨bs, h1, h2, hl, ?_⟩
    simp only [Prod.mk.injEq] at hx
    obtain ⟨rfl, _⟩ := hx
    have hw := sized_slice hsz ht hd Tryd.underlying42
    have hb : Tryd.prog.bytesOf 5 = 1 := by kernel_rfl
    rw [hb] at hw
    simp [lits, hz'] at hw
    have : reachBytes = 140737488351232 := rfl
    omega
/-- .. and a nil one has no room. -/
theorem open_bytesn {H : Type} {enc : TypeId × Value → H} {W : World} {ts : List TypeId} {ds : List (DataW H)} {j : Nat} {a : Option Addr} {len cap : Nat} {d : DataW H} {p : List MemPlace}
    (hsz : (DataW.weightsEach Tryd.prog ts ds).all (· ≤ reachBytes) = true) (ht : ts[j]? = some 42) (hd : ds[j]? = some d)
    (h : DataW.Trod enc Tryd.prog W 0 (fun _ => true) true 42 (.slice a len cap) d p) :
    ∃ bs : List UInt8, len = bs.length ∧ RB W a bs ∧ len ≤ cap ∧ cap ≤ 140737488351232 ∧ (a = none → cap = 0) := by
  obtain ⟨fuel, hf⟩ := h
  rcases open_ints Tryd.underlying42 Tryd.underlying5 (by kernel_rfl) hf with ⟨hcs, _⟩ | ⟨x, l, c, zs, hcs, _, hl, hm, hz, hx, hcell, hwz⟩
  · simp [Value.cells] at hcs
    obtain ⟨rfl, rfl, rfl⟩ := hcs
    exact ⟨[], rfl, RB.nil _ _, by omega, by omega, fun _ => rfl⟩
  · simp [Value.cells] at hcs
    obtain ⟨rfl, rfl, rfl⟩ := hcs
    have hz' : zs.length = cap := by simpa using hz
    obtain ⟨bs, h1, h2⟩ := bytes_of_ints hl hz' hcell hwz
    refine ⟨bs, h1, h2, hl, ?_, fun h => by cases h⟩
    simp only [Prod.mk.injEq] at hx
    obtain ⟨rfl, _⟩ := hx
    have hw := sized_slice hsz ht hd Tryd.underlying42
    have hb : Tryd.prog.bytesOf 5 = 1 := by kernel_rfl
    rw [hb] at hw
    simp [lits, hz'] at hw
    have : reachBytes = 140737488351232 := rfl
    omega
end Go.Proofs.YtkjpfjgaabbggaaDoor
