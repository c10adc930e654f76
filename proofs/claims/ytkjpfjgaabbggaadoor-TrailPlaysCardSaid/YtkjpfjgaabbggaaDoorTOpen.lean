/- What an argument reads as: entries. -/
import Derived.Test.YtkjpfjgaabbggaaDoorOpen
import Derived.Test.YtkjpfjgaabbggaaDoorTEnt
import Derived.Deep.Slices
import Derived.Deep.Fields
import Derived.ChangeSame
set_option linter.unusedVariables false
set_option linter.unusedSimpArgs false
namespace Go.Proofs.YtkjpfjgaabbggaaDoor
open Go.ChangeShapes Go.WideShapes Go.RowKit Go.Deep

instance : Inhabited Ent := ⟨⟨0, 0, 0, []⟩⟩

theorem RE.mk' {w : World} {a : Addr} {es : List Ent} {Ds : List Value} (hl : Ds.length = es.length)
    (h : ∀ i (h1 : i < es.length) (h2 : i < Ds.length), w.cell? (a.add (i * 4)) = some (.int .i64 es[i].i) ∧ w.cell? (a.add (i * 4 + 1)) = some (.int .i64 es[i].t) ∧ w.cell? (a.add (i * 4 + 2)) = some (.int .i64 es[i].k) ∧ w.cell? (a.add (i * 4 + 3)) = some Ds[i] ∧ RD w Ds[i] es[i].d) : RE w (some a) es Ds := by
  refine ⟨hl, fun j u hj => ⟨a, rfl, ?_⟩, fun i h1 h2 => (h i h1 h2).2.2.2.2⟩
  have hlt := (List.getElem?_eq_some_iff.1 hj).1
  rw [ecells_length hl] at hlt
  have h1 : j / 4 < es.length := by omega
  have h2 : j / 4 < Ds.length := by omega
  obtain ⟨g0, g1, g2, g3⟩ := ecells_get hl (j / 4) h1 h2
  obtain ⟨c0, c1, c2, c3, -⟩ := h (j / 4) h1 h2
  have h4 : j = j / 4 * 4 ∨ j = j / 4 * 4 + 1 ∨ j = j / 4 * 4 + 2 ∨ j = j / 4 * 4 + 3 := by omega
  rcases h4 with e | e | e | e
  · rw [e] at hj ⊢; rw [g0] at hj; rw [c0]; exact hj
  · rw [e] at hj ⊢; rw [g1] at hj; rw [c1]; exact hj
  · rw [e] at hj ⊢; rw [g2] at hj; rw [c2]; exact hj
  · rw [e] at hj ⊢; rw [g3] at hj; rw [c3]; exact hj

theorem cellsE : Tryd.prog.cellsOf 44 = 4 := by kernel_rfl
/-- a []byte as a field: its bytes -/
theorem trod_bytes {H : Type} {enc : TypeId × Value → H} {W : World} {fuel : Nat} {v : Value} {x : DataW H × List MemPlace} (hw : ∀ n ∈ x.1.weights Tryd.prog 42, n ≤ reachBytes)
    (h : DataW.trod enc Tryd.prog W 0 (fun _ => true) true fuel 42 [v] = some x) : ∃ d, RD W v d := by
  rcases open_ints Tryd.underlying42 Tryd.underlying5 (by kernel_rfl) h with ⟨hcs, _⟩ | ⟨a, l, c, zs, hcs, _, hl, hm, hz, hx, hcell, hwz⟩
  · cases hcs
    exact ⟨[], none, 0, rfl, RB.nil _ _, by simp, by simp, fun _ => rfl⟩
  · cases hcs
    have hz' : zs.length = c := by simpa using hz
    obtain ⟨bs, h1, h2⟩ := bytes_of_ints hl hz' hcell hwz
    subst h1
    refine ⟨bs, some a, c, rfl, h2, hl, ?_, fun h => by cases h⟩
    have hb : Tryd.prog.bytesOf 5 = 1 := by kernel_rfl
    have := hw (c * 1) (by
      rw [hx]
      simp only [DataW.weights, Tryd.underlying42, List.mem_cons]
      left
      rw [hb]
      simp [lits, hz']
      omega)
    have hr : reachBytes = 140737488351232 := rfl
    omega
set_option maxRecDepth 100000 in
/-- one entry -/
theorem trod_entry {H : Type} {enc : TypeId × Value → H} {W : World} {fuel : Nat} {a : Addr} {i : Nat} {cs : List Value} {D : DataW H} {pl : List MemPlace} (hw : ∀ n ∈ D.weights Tryd.prog 44, n ≤ reachBytes)
    (hc : W.cells? 0 (a.add (i * 4)) 4 = some cs) (h : DataW.trod enc Tryd.prog W 0 (fun _ => true) true fuel 44 cs = some (D, pl)) :
    ∃ x : Ent × Value, W.cell? (a.add (i * 4)) = some (.int .i64 x.1.i) ∧ W.cell? (a.add (i * 4 + 1)) = some (.int .i64 x.1.t) ∧ W.cell? (a.add (i * 4 + 2)) = some (.int .i64 x.1.k) ∧ W.cell? (a.add (i * 4 + 3)) = some x.2 ∧ RD W x.2 x.1.d := by
  obtain ⟨xs, n, _, hx, hlen, hxl, hf⟩ := DataW.trod_struct Tryd.underlying44 h
  obtain ⟨_, hcl, hat⟩ := World.cells?_some hc
  match cs, hcl with
  | [c0, c1, c2, c3], _ =>
  match xs, hxl with
  | [x0, x1, x2, x3], _ =>
  have k1 : Tryd.prog.cellsOf 3 = 1 := by kernel_rfl
  have k2 : Tryd.prog.cellsOf 42 = 1 := by kernel_rfl
  have t0 : DataW.trod enc Tryd.prog W 0 (fun _ => true) true n 3 [c0] = some x0 := by simpa [k1] using hf 0 _ rfl
  have t1 : DataW.trod enc Tryd.prog W 0 (fun _ => true) true n 3 [c1] = some x1 := by simpa [k1] using hf 1 _ rfl
  have t2 : DataW.trod enc Tryd.prog W 0 (fun _ => true) true n 3 [c2] = some x2 := by simpa [k1] using hf 2 _ rfl
  have t3 : DataW.trod enc Tryd.prog W 0 (fun _ => true) true n 42 [c3] = some x3 := by simpa [k2] using hf 3 _ rfl
  obtain ⟨n0, e0, -, -⟩ := DataW.trod_int Tryd.underlying3 t0
  obtain ⟨n1, e1, -, -⟩ := DataW.trod_int Tryd.underlying3 t1
  obtain ⟨n2, e2, -, -⟩ := DataW.trod_int Tryd.underlying3 t2
  cases e0; cases e1; cases e2
  obtain ⟨d, hd⟩ := trod_bytes (x := x3) (fun m hm => hw m (by
    have hD : D = .agg [x0.1, x1.1, x2.1, x3.1] := by simpa using congrArg Prod.fst hx
    rw [hD]
    simp only [DataW.weights, Tryd.underlying44, DataW.weightsEach, List.map_cons, List.map_nil, List.mem_append]
    exact .inr (.inr (.inr (.inl hm))))) t3
  refine ⟨(⟨n0, n1, n2, d⟩, c3), ?_, ?_, ?_, ?_, hd⟩
  · have := hat 0 (by omega); simpa [Go.Deep.add_add] using this
  · have := hat 1 (by omega); simpa [Go.Deep.add_add] using this
  · have := hat 2 (by omega); simpa [Go.Deep.add_add] using this
  · have := hat 3 (by omega); simpa [Go.Deep.add_add] using this

theorem weightsAll_in {H : Type} {P : Program} {e : TypeId} : ∀ {l : List (DataW H)} {d : DataW H}, d ∈ l → ∀ n ∈ d.weights P e, n ∈ DataW.weightsAll P e l
  | d' :: r, d, hd, n, hn => by
    simp only [DataW.weightsAll, List.mem_append]
    rcases List.mem_cons.1 hd with rfl | h
    · exact Or.inl hn
    · exact Or.inr (weightsAll_in h n hn)
/-- A []api.Entry argument: its entries. -/
theorem open_entries {H : Type} {enc : TypeId × Value → H} {W : World} {ts : List TypeId} {ds : List (DataW H)} {j : Nat} {a : Option Addr} {len cap : Nat} {d : DataW H} {p : List MemPlace}
    (hsz : (DataW.weightsEach Tryd.prog ts ds).all (· ≤ reachBytes) = true) (ht : ts[j]? = some 22) (hd : ds[j]? = some d)
    (h : DataW.Trod enc Tryd.prog W 0 (fun _ => true) true 22 (.slice a len cap) d p) :
    ∃ es Ds, es.length = len ∧ RE W a es Ds ∧ len ≤ cap ∧ cap * 48 ≤ 140737488351232 ∧ (a = none → cap = 0) := by
  obtain ⟨fuel, hf⟩ := h
  have hre : reachBytes = 140737488351232 := rfl
  rcases open_slice Tryd.underlying22 hf with ⟨hcs, _⟩ | ⟨x, l, c, m, n, D, Pl, hcs, _, hl, hm, hmm, hx, hr⟩
  · simp [Value.cells] at hcs
    obtain ⟨rfl, rfl, rfl⟩ := hcs
    exact ⟨[], [], rfl, RE.nil _ _, by omega, by omega, fun _ => rfl⟩
  · simp [Value.cells] at hcs
    obtain ⟨rfl, rfl, rfl⟩ := hcs
    simp only [Prod.mk.injEq] at hx
    obtain ⟨rfl, _⟩ := hx
    rw [cellsE] at hr
    have hmc : m = cap := by simpa using hmm
    subst hmc
    have hb : Tryd.prog.bytesOf 44 = 48 := by kernel_rfl
    have hall : ∀ i, i < len → ∀ q ∈ (D i).weights Tryd.prog 44, q ≤ reachBytes := fun i hi q hq => by
      refine of_decide_eq_true (List.all_eq_true.1 hsz _ (DataW.weights_mem_each ht hd _ ?_))
      simp only [DataW.weights, Tryd.underlying22, List.mem_cons, List.mem_append]
      exact .inr (.inl (weightsAll_in (List.mem_map.2 ⟨i, List.mem_range.2 hi, rfl⟩) _ hq))
    obtain ⟨y, hy⟩ := choose_lt (n := len) (fun i hi => by
      obtain ⟨cs', hc, ht'⟩ := hr i (by omega)
      exact trod_entry (hall i hi) hc ht')
    refine ⟨(List.range len).map fun i => (y i).1, (List.range len).map fun i => (y i).2, by simp, RE.mk' (by simp) fun i h1 h2 => ?_, hl, ?_, fun h => by cases h⟩
    · have hi : i < len := by simpa using h1
      simp only [List.getElem_map, List.getElem_range]
      exact hy i hi
    · have hw := sized_slice hsz ht hd Tryd.underlying22
      rw [hb] at hw
      simp at hw
      rw [hre] at hw
      have : (len + (m - len)) = m := by omega
      rw [this] at hw
      exact hw
end Go.Proofs.YtkjpfjgaabbggaaDoor
