/- What an argument reads as: matches. -/
import Derived.Test.YtaopipghooaekaaDoorQOpen
import Derived.Test.YtaopipghooaekaaDoorQMatch
import Derived.Deep.Slices
import Derived.Deep.Fields
import Derived.ChangeSame
set_option linter.unusedVariables false
set_option linter.unusedSimpArgs false
namespace Go.Proofs.YtaopipghooaekaaDoor
open Go.ChangeShapes Go.WideShapes Go.RowKit Go.Deep

theorem cellsM : Tryd.prog.cellsOf 57 = 2 := by kernel_rfl
set_option maxRecDepth 100000 in
/-- one match -/
theorem trod_match {H : Type} {enc : TypeId × Value → H} {W : World} {fuel : Nat} {a : Addr} {i : Nat} {cs : List Value} {D : DataW H} {pl : List MemPlace}
    (hc : W.cells? 0 (a.add (i * 2)) 2 = some cs) (h : DataW.trod enc Tryd.prog W 0 (fun _ => true) true fuel 57 cs = some (D, pl)) :
    ∃ x : Int × Int, (W.cell? (a.add (i * 2)) = some (.int .i64 x.1) ∧ W.cell? (a.add (i * 2 + 1)) = some (.int .i64 x.2)) ∧ (Lit.int .i64 x.2).wf = true := by
  obtain ⟨xs, n, _, hx, hlen, hxl, hf⟩ := DataW.trod_struct Tryd.underlying57 h
  obtain ⟨_, hcl, hat⟩ := World.cells?_some hc
  match cs, hcl with
  | [c0, c1], _ =>
  match xs, hxl with
  | [x0, x1], _ =>
  have k1 : Tryd.prog.cellsOf 3 = 1 := by kernel_rfl
  have t0 : DataW.trod enc Tryd.prog W 0 (fun _ => true) true n 3 [c0] = some x0 := by simpa [k1] using hf 0 _ rfl
  have t1 : DataW.trod enc Tryd.prog W 0 (fun _ => true) true n 3 [c1] = some x1 := by simpa [k1] using hf 1 _ rfl
  obtain ⟨n0, e0, -, -⟩ := DataW.trod_int Tryd.underlying3 t0
  obtain ⟨n1, e1, -, w1⟩ := DataW.trod_int Tryd.underlying3 t1
  cases e0; cases e1
  refine ⟨(n0, n1), ⟨?_, ?_⟩, w1⟩
  · have := hat 0 (by omega); simpa [Go.Deep.add_add] using this
  · have := hat 1 (by omega); simpa [Go.Deep.add_add] using this

/-- A []api.Match argument: its matches. -/
theorem open_matches {H : Type} {enc : TypeId × Value → H} {W : World} {ts : List TypeId} {ds : List (DataW H)} {j : Nat} {a : Option Addr} {len cap : Nat} {d : DataW H} {p : List MemPlace}
    (hsz : (DataW.weightsEach Tryd.prog ts ds).all (· ≤ reachBytes) = true) (ht : ts[j]? = some 38) (hd : ds[j]? = some d)
    (h : DataW.Trod enc Tryd.prog W 0 (fun _ => true) true 38 (.slice a len cap) d p) :
    ∃ ms : List (Int × Int), len = ms.length ∧ RM W a ms ∧ len ≤ cap ∧ cap ≤ 8796093022208 ∧ ∀ m ∈ ms, (Lit.int .i64 m.2).wf = true := by
  obtain ⟨fuel, hf⟩ := h
  have hre : reachBytes = 140737488351232 := rfl
  rcases open_slice Tryd.underlying38 hf with ⟨hcs, _⟩ | ⟨x, l, c, m, n, D, Pl, hcs, _, hl, hm, hmm, hx, hr⟩
  · simp [Value.cells] at hcs
    obtain ⟨rfl, rfl, rfl⟩ := hcs
    exact ⟨[], rfl, RM.nil _ _, by omega, by omega, fun m h => by simp at h⟩
  · simp [Value.cells] at hcs
    obtain ⟨rfl, rfl, rfl⟩ := hcs
    simp only [Prod.mk.injEq] at hx
    obtain ⟨rfl, _⟩ := hx
    rw [cellsM] at hr
    have hmc : m = cap := by simpa using hmm
    subst hmc
    have hb : Tryd.prog.bytesOf 57 = 16 := by kernel_rfl
    obtain ⟨y, hy⟩ := choose_lt (n := len) (fun i hi => by
      obtain ⟨cs', hc, ht'⟩ := hr i (by omega)
      exact trod_match hc ht')
    refine ⟨(List.range len).map y, by simp, fun i hi => ⟨x, rfl, ?_⟩, hl, ?_, fun q hq => ?_⟩
    · have hi : i < len := by simpa using hi
      simp only [List.getElem_map, List.getElem_range]
      exact (hy i hi).1
    · have hw := sized_slice hsz ht hd Tryd.underlying38
      rw [hb] at hw
      simp at hw
      rw [hre] at hw
      omega
    · obtain ⟨i, hi, rfl⟩ := List.mem_map.1 hq
      exact (hy i (by simpa using hi)).2
end Go.Proofs.YtaopipghooaekaaDoor
