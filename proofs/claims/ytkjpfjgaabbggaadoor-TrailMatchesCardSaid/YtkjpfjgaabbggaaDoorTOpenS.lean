/- What an argument reads as: numbers; steps. -/
import Derived.Test.YtkjpfjgaabbggaaDoorTrailMatches
import Derived.Test.YtkjpfjgaabbggaaDoorTOpen
set_option linter.unusedVariables false
set_option linter.unusedSimpArgs false
namespace Go.Proofs.YtkjpfjgaabbggaaDoor
open Go.ChangeShapes Go.WideShapes Go.RowKit Go.Deep

/-- A []int argument: its numbers, and how many there may be. -/
theorem open_int_list {H : Type} {enc : TypeId × Value → H} {W : World} {ts : List TypeId} {ds : List (DataW H)} {j : Nat} {a : Option Addr} {len cap : Nat} {d : DataW H} {p : List MemPlace}
    (hsz : (DataW.weightsEach Tryd.prog ts ds).all (· ≤ reachBytes) = true) (ht : ts[j]? = some 48) (hd : ds[j]? = some d)
    (h : DataW.Trod enc Tryd.prog W 0 (fun _ => true) true 48 (.slice a len cap) d p) :
    ∃ xs : List Int, len = xs.length ∧ RI W a xs ∧ len ≤ cap ∧ cap ≤ 17592186044416 := by
  obtain ⟨fuel, hf⟩ := h
  rcases open_ints Tryd.underlying48 Tryd.underlying3 (by kernel_rfl) hf with ⟨hcs, _⟩ | ⟨x, l, c, zs, hcs, _, hl, hm, hz, hx, hcell, hwz⟩
  · simp [Value.cells] at hcs
    obtain ⟨rfl, rfl, rfl⟩ := hcs
    exact ⟨[], rfl, RI.nil _ _, by omega, by omega⟩
  · simp [Value.cells] at hcs
    obtain ⟨rfl, rfl, rfl⟩ := hcs
    have hz' : zs.length = cap := by simpa using hz
    refine ⟨zs.take len, by simp; omega, fun i hi => ⟨x, rfl, ?_⟩, hl, ?_⟩
    · have hi' : i < len := by simp at hi; omega
      rw [hcell i (by omega)]
      simp [List.getD, List.getElem?_eq_getElem (show i < zs.length by omega)]
    · simp only [Prod.mk.injEq] at hx
      obtain ⟨rfl, _⟩ := hx
      have hw := sized_slice hsz ht hd Tryd.underlying48
      have hb : Tryd.prog.bytesOf 3 = 8 := by kernel_rfl
      rw [hb] at hw
      simp [lits, hz'] at hw
      have : reachBytes = 140737488351232 := rfl
      omega

theorem cellsS : Tryd.prog.cellsOf 55 = 4 := by kernel_rfl
set_option maxRecDepth 100000 in
/-- one step -/
theorem trod_step {H : Type} {enc : TypeId × Value → H} {W : World} {fuel : Nat} {a : Addr} {i : Nat} {cs : List Value} {D : DataW H} {pl : List MemPlace}
    (hc : W.cells? 0 (a.add (i * 4)) 4 = some cs) (h : DataW.trod enc Tryd.prog W 0 (fun _ => true) true fuel 55 cs = some (D, pl)) :
    ∃ x : Int × Int × Int × Int, W.cell? (a.add (i * 4)) = some (.int .i64 x.1) ∧ W.cell? (a.add (i * 4 + 1)) = some (.int .i64 x.2.1) ∧ W.cell? (a.add (i * 4 + 2)) = some (.int .i64 x.2.2.1) ∧ W.cell? (a.add (i * 4 + 3)) = some (.int .i64 x.2.2.2) := by
  obtain ⟨xs, n, _, hx, hlen, hxl, hf⟩ := DataW.trod_struct Tryd.underlying55 h
  obtain ⟨_, hcl, hat⟩ := World.cells?_some hc
  match cs, hcl with
  | [c0, c1, c2, c3], _ =>
  match xs, hxl with
  | [x0, x1, x2, x3], _ =>
  have k1 : Tryd.prog.cellsOf 3 = 1 := by kernel_rfl
  have t0 : DataW.trod enc Tryd.prog W 0 (fun _ => true) true n 3 [c0] = some x0 := by simpa [k1] using hf 0 _ rfl
  have t1 : DataW.trod enc Tryd.prog W 0 (fun _ => true) true n 3 [c1] = some x1 := by simpa [k1] using hf 1 _ rfl
  have t2 : DataW.trod enc Tryd.prog W 0 (fun _ => true) true n 3 [c2] = some x2 := by simpa [k1] using hf 2 _ rfl
  have t3 : DataW.trod enc Tryd.prog W 0 (fun _ => true) true n 3 [c3] = some x3 := by simpa [k1] using hf 3 _ rfl
  obtain ⟨n0, e0, -, -⟩ := DataW.trod_int Tryd.underlying3 t0
  obtain ⟨n1, e1, -, -⟩ := DataW.trod_int Tryd.underlying3 t1
  obtain ⟨n2, e2, -, -⟩ := DataW.trod_int Tryd.underlying3 t2
  obtain ⟨n3, e3, -, -⟩ := DataW.trod_int Tryd.underlying3 t3
  cases e0; cases e1; cases e2; cases e3
  refine ⟨(n0, n1, n2, n3), ?_, ?_, ?_, ?_⟩
  · have := hat 0 (by omega); simpa [Go.Deep.add_add] using this
  · have := hat 1 (by omega); simpa [Go.Deep.add_add] using this
  · have := hat 2 (by omega); simpa [Go.Deep.add_add] using this
  · have := hat 3 (by omega); simpa [Go.Deep.add_add] using this

/-- A []Step argument: its steps. -/
theorem open_steps {H : Type} {enc : TypeId × Value → H} {W : World} {ts : List TypeId} {ds : List (DataW H)} {j : Nat} {a : Option Addr} {len cap : Nat} {d : DataW H} {p : List MemPlace}
    (hsz : (DataW.weightsEach Tryd.prog ts ds).all (· ≤ reachBytes) = true) (ht : ts[j]? = some 49) (hd : ds[j]? = some d)
    (h : DataW.Trod enc Tryd.prog W 0 (fun _ => true) true 49 (.slice a len cap) d p) :
    ∃ qs : List (Int × Int × Int × Int), len = qs.length ∧ R4 W a qs ∧ len ≤ cap ∧ cap ≤ 4398046511104 := by
  obtain ⟨fuel, hf⟩ := h
  have hre : reachBytes = 140737488351232 := rfl
  rcases open_slice Tryd.underlying49 hf with ⟨hcs, _⟩ | ⟨x, l, c, m, n, D, Pl, hcs, _, hl, hm, hmm, hx, hr⟩
  · simp [Value.cells] at hcs
    obtain ⟨rfl, rfl, rfl⟩ := hcs
    exact ⟨[], rfl, R4.nil _ _, by omega, by omega⟩
  · simp [Value.cells] at hcs
    obtain ⟨rfl, rfl, rfl⟩ := hcs
    simp only [Prod.mk.injEq] at hx
    obtain ⟨rfl, _⟩ := hx
    rw [cellsS] at hr
    have hmc : m = cap := by simpa using hmm
    subst hmc
    have hb : Tryd.prog.bytesOf 55 = 32 := by kernel_rfl
    obtain ⟨y, hy⟩ := choose_lt (n := len) (fun i hi => by
      obtain ⟨cs', hc, ht'⟩ := hr i (by omega)
      exact trod_step hc ht')
    refine ⟨(List.range len).map y, by simp, fun i hi => ⟨x, rfl, ?_⟩, hl, ?_⟩
    · have hi : i < len := by simpa using hi
      simp only [List.getElem_map, List.getElem_range]
      exact hy i hi
    · have hw := sized_slice hsz ht hd Tryd.underlying49
      rw [hb] at hw
      simp at hw
      rw [hre] at hw
      omega

theorem trailMatches_row (A : Option Addr) (c : Nat) (ns : List Int) (A2 : Option Addr) (c2 : Nat) (qs : List (Int × Int × Int × Int)) (w : World)
    (hl : ns.length ≤ c) (hn : c ≤ 17592186044416) (hr : RI w A ns) (hl2 : qs.length ≤ c2) (hn2 : c2 ≤ 4398046511104) (hq : R4 w A2 qs) (hE : ErrT w) :
    Calls Tryd.prog 5 #[.slice A ns.length c, .slice A2 qs.length c2] w fun e w' => e = .returned (.bool true) ∧ Below w.heap.size w w' :=
  trailMatches_walk A _ c ns A2 _ c2 qs w hE hr rfl (by omega) hq rfl (by omega)
end Go.Proofs.YtkjpfjgaabbggaaDoor
