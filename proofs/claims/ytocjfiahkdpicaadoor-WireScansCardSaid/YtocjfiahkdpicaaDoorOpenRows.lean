/- What an argument reads as: rows of bytes. -/
import Derived.Test.YtocjfiahkdpicaaDoorOpen
import Derived.Test.YtocjfiahkdpicaaDoorRowsRead
import Derived.Deep.Matrix
set_option linter.unusedVariables false
set_option linter.unusedSimpArgs false
namespace Go.Proofs.YtocjfiahkdpicaaDoor
open Go.ChangeShapes Go.WideShapes Go.RowKit

theorem weightsAll_mem {H : Type} {P : Program} {e : TypeId} : ∀ {l : List (DataW H)} {d : DataW H}, d ∈ l → ∀ n ∈ d.weights P e, n ∈ DataW.weightsAll P e l
  | d' :: r, d, hd, n, hn => by
    simp only [DataW.weightsAll, List.mem_append]
    rcases List.mem_cons.1 hd with rfl | h
    · exact Or.inl hn
    · exact Or.inr (weightsAll_mem h n hn)
theorem sized_inner {H : Type} {P : Program} {ts : List TypeId} {ds : List (DataW H)} (h : (DataW.weightsEach P ts ds).all (· ≤ reachBytes) = true) {j : Nat} {t e q : TypeId} {elems spare e' sp' : List (DataW H)}
    (ht : ts[j]? = some t) (hd : ds[j]? = some (.slice elems spare)) (hu : P.underlying t = some (.slice e)) (hu2 : P.underlying e = some (.slice q)) (hx : DataW.slice e' sp' ∈ elems) : (e'.length + sp'.length) * P.bytesOf q ≤ reachBytes := by
  refine of_decide_eq_true (List.all_eq_true.1 h _ (DataW.weights_mem_each ht hd _ ?_))
  simp only [DataW.weights, hu, List.mem_cons, List.mem_append]
  exact Or.inr (Or.inl (weightsAll_mem hx _ (by simp [DataW.weights, hu2])))

/-- A [][]byte argument: its rows. -/
theorem open_byterows {H : Type} {enc : TypeId × Value → H} {W : World} {ts : List TypeId} {ds : List (DataW H)} {j : Nat} {a : Option Addr} {len cap : Nat} {d : DataW H} {p : List MemPlace}
    (hsz : (DataW.weightsEach Tryd.prog ts ds).all (· ≤ reachBytes) = true) (ht : ts[j]? = some 36) (hd : ds[j]? = some d)
    (h : DataW.Trod enc Tryd.prog W 0 (fun _ => true) true 36 (.slice a len cap) d p) :
    ∃ rows : List (List UInt8), len = rows.length ∧ RR W a rows ∧ len ≤ cap ∧ cap ≤ 140737488351232 := by
  obtain ⟨fuel, hf⟩ := h
  rcases Go.Deep.open_int_rows Tryd.underlying36 Tryd.underlying22 Tryd.underlying5 (by kernel_rfl) (by kernel_rfl) hf with ⟨hcs, _⟩ | ⟨x, l, c, A, L, C, Z, hcs, _, hl, hm, hx, hr⟩
  · simp [Value.cells] at hcs
    obtain ⟨rfl, rfl, rfl⟩ := hcs
    exact ⟨[], rfl, fun i h => by simp at h, by omega, by omega⟩
  · simp [Value.cells] at hcs
    obtain ⟨rfl, rfl, rfl⟩ := hcs
    simp only [Prod.mk.injEq] at hx
    obtain ⟨rfl, _⟩ := hx
    have hb : Tryd.prog.bytesOf 5 = 1 := by kernel_rfl
    have hb2 : Tryd.prog.bytesOf 22 = 24 := by kernel_rfl
    have hre : reachBytes = 140737488351232 := rfl
    have each : ∀ r, r < len → ∃ bs : List UInt8, L r = bs.length ∧ RB W (A r) bs ∧ C r ≤ 140737488351232 := by
      intro r hrl
      obtain ⟨hcell, hLC, _, hZ, hwf, hnil, hsome⟩ := hr r (by omega)
      cases hA : A r with
      | none =>
        have := hnil hA
        exact ⟨[], by simp; omega, RB.nil _ _, by omega⟩
      | some a' =>
        obtain ⟨bs, h1, h2⟩ := bytes_of_ints (W := W) (x := a') hLC hZ (fun i hi => (hsome a' hA).2 i (by omega)) hwf
        refine ⟨bs, h1, h2, ?_⟩
        have hw := sized_inner (e' := lits .u8 ((Z r).take (L r))) (sp' := lits .u8 ((Z r).drop (L r))) hsz ht hd Tryd.underlying36 Tryd.underlying22 (List.mem_map.2 ⟨r, List.mem_range.2 hrl, by simp [Go.Deep.intRow, hA]⟩)
        rw [hb] at hw
        simp [lits, hZ] at hw
        omega
    obtain ⟨y, hy⟩ := Go.Deep.choose_lt each
    refine ⟨(List.range len).map y, by simp, fun i hi => ?_, hl, ?_⟩
    · have hi' : i < len := by simpa using hi
      obtain ⟨hcell, hLC, _, hZ, hwf, hnil, hsome⟩ := hr i (by omega)
      obtain ⟨y1, y2, y3⟩ := hy i hi'
      simp only [List.getElem_map, List.getElem_range]
      exact ⟨x, A i, C i, rfl, by rw [hcell, y1], y2, by omega, y3, hnil⟩
    · have hw := sized_slice hsz ht hd Tryd.underlying36
      rw [hb2] at hw
      simp at hw
      omega
end Go.Proofs.YtocjfiahkdpicaaDoor
