/- What a slice of the trail's acts reads as; such an argument. -/
import Derived.Test.YtkjpfjgaabbggaaDoorTOpen
set_option linter.unusedVariables false
set_option linter.unusedSimpArgs false
namespace Go.Proofs.YtkjpfjgaabbggaaDoor
open Go.ChangeShapes Go.WideShapes Go.RowKit Go.Deep

/-- an act -/
structure AW where
  d : Int
  n : Int
  m : Int
  k : Int
  B : Option Addr
  cb : Nat
  bs : List UInt8
  L : Option Addr
  cl : Nat
  ls : List Ent
  Ls : List Value
instance : Inhabited AW := ⟨⟨0, 0, 0, 0, none, 0, [], none, 0, [], []⟩⟩
/-- an act at an address -/
def AWat (w : World) (a : Addr) (k : Nat) (x : AW) : Prop :=
  w.cell? (a.add (k * 6)) = some (.int .i64 x.d) ∧ w.cell? (a.add (k * 6 + 1)) = some (.int .i64 x.n) ∧ w.cell? (a.add (k * 6 + 2)) = some (.int .i64 x.m) ∧ w.cell? (a.add (k * 6 + 3)) = some (.int .i64 x.k) ∧
  w.cell? (a.add (k * 6 + 4)) = some (.slice x.B x.bs.length x.cb) ∧ w.cell? (a.add (k * 6 + 5)) = some (.slice x.L x.ls.length x.cl) ∧ RD w (.slice x.B x.bs.length x.cb) x.bs ∧ RE w x.L x.ls x.Ls ∧ x.ls.length ≤ x.cl ∧ x.cl * 48 ≤ 140737488351232 ∧ (Lit.int .i64 x.n).wf = true
def RW (w : World) (A : Option Addr) (av : List AW) : Prop := ∀ k (h : k < av.length), ∃ a, A = some a ∧ AWat w a k av[k]
theorem RW.nil (w : World) (A : Option Addr) : RW w A [] := fun k h => by simp at h
theorem RW.addr {w : World} {A : Option Addr} {av : List AW} (h : RW w A av) (h0 : 0 < av.length) : ∃ g o, A = some ⟨g, o, none⟩ ∧ g < w.heap.size ∧ ∀ k (hk : k < av.length), w.cell? ⟨g, o + k * 6, none⟩ = some (.int .i64 av[k].d) ∧ w.cell? ⟨g, o + k * 6 + 1, none⟩ = some (.int .i64 av[k].n) ∧ w.cell? ⟨g, o + k * 6 + 2, none⟩ = some (.int .i64 av[k].m) ∧ w.cell? ⟨g, o + k * 6 + 3, none⟩ = some (.int .i64 av[k].k) ∧
    w.cell? ⟨g, o + k * 6 + 4, none⟩ = some (.slice av[k].B av[k].bs.length av[k].cb) ∧ w.cell? ⟨g, o + k * 6 + 5, none⟩ = some (.slice av[k].L av[k].ls.length av[k].cl) := by
  obtain ⟨a, rfl, c0, -⟩ := h 0 h0
  have hz := c0
  obtain ⟨g, o, z⟩ := a
  have hzn : z = none := by
    cases z with
    | none => rfl
    | some t =>
      simp only [World.cell?, Addr.add] at hz
      simp at hz
      split at hz <;> cases hz
  subst hzn
  refine ⟨g, o, rfl, ?_, fun k hk => ?_⟩
  · exact World.block_lt_of_cell? _ _ hz
  · obtain ⟨a', e, d0, d1, d2, d3, d4, d5, -⟩ := h k hk
    cases e
    simp only [Addr.add_lit] at d0 d1 d2 d3 d4 d5
    exact ⟨d0, d1, d2, d3, d4, d5⟩
theorem trod_entries {H : Type} {enc : TypeId × Value → H} {W : World} {fuel : Nat} {v : Value} {x : DataW H × List MemPlace} (hw : ∀ n ∈ x.1.weights Tryd.prog 22, n ≤ reachBytes)
    (h : DataW.trod enc Tryd.prog W 0 (fun _ => true) true fuel 22 [v] = some x) : ∃ A len c es Ds, v = .slice A len c ∧ es.length = len ∧ RE W A es Ds ∧ len ≤ c ∧ c * 48 ≤ 140737488351232 := by
  have hre : reachBytes = 140737488351232 := rfl
  rcases open_slice Tryd.underlying22 h with ⟨hcs, _⟩ | ⟨y, len, c, m, n, D, Pl, hcs, _, hl, hm, hmm, hx, hr⟩
  · cases hcs
    exact ⟨none, 0, 0, [], [], rfl, rfl, RE.nil _ _, by omega, by omega⟩
  · cases hcs
    rw [cellsE] at hr
    have hmc : m = c := by simpa using hmm
    subst hmc
    have hb : Tryd.prog.bytesOf 44 = 48 := by kernel_rfl
    have hall : ∀ i, i < len → ∀ q ∈ (D i).weights Tryd.prog 44, q ≤ reachBytes := fun i hi q hq => by
      refine hw q ?_
      rw [hx]
      simp only [DataW.weights, Tryd.underlying22, List.mem_cons, List.mem_append]
      exact .inr (.inl (weightsAll_in (List.mem_map.2 ⟨i, List.mem_range.2 hi, rfl⟩) _ hq))
    obtain ⟨z, hz⟩ := choose_lt (n := len) (fun i hi => by
      obtain ⟨cs', hc, ht'⟩ := hr i (by omega)
      exact trod_entry (hall i hi) hc ht')
    refine ⟨some y, len, m, (List.range len).map fun i => (z i).1, (List.range len).map fun i => (z i).2, rfl, by simp, RE.mk' (by simp) fun i h1 h2 => ?_, hl, ?_⟩
    · have hi : i < len := by simpa using h1
      simp only [List.getElem_map, List.getElem_range]
      exact hz i hi
    · have := hw ((len + (m - len)) * 48) (by
        rw [hx]
        simp only [DataW.weights, Tryd.underlying22, List.mem_cons]
        left
        rw [hb]
        simp)
      rw [hre] at this
      omega
theorem cellsW : Tryd.prog.cellsOf 73 = 6 := by kernel_rfl
set_option maxRecDepth 100000 in
theorem trod_actW {H : Type} {enc : TypeId × Value → H} {W : World} {fuel : Nat} {a : Addr} {i : Nat} {cs : List Value} {D : DataW H} {pl : List MemPlace} (hw : ∀ n ∈ D.weights Tryd.prog 73, n ≤ reachBytes)
    (hc : W.cells? 0 (a.add (i * 6)) 6 = some cs) (h : DataW.trod enc Tryd.prog W 0 (fun _ => true) true fuel 73 cs = some (D, pl)) : ∃ x : AW, AWat W a i x := by
  obtain ⟨xs, n, _, hx, hlen, hxl, hf⟩ := DataW.trod_struct Tryd.underlying73 h
  obtain ⟨_, hcl, hat⟩ := World.cells?_some hc
  match cs, hcl with
  | [c0, c1, c2, c3, c4, c5], _ =>
  match xs, hxl with
  | [x0, x1, x2, x3, x4, x5], _ =>
  have k1 : Tryd.prog.cellsOf 3 = 1 := by kernel_rfl
  have k2 : Tryd.prog.cellsOf 42 = 1 := by kernel_rfl
  have k3 : Tryd.prog.cellsOf 22 = 1 := by kernel_rfl
  have t0 : DataW.trod enc Tryd.prog W 0 (fun _ => true) true n 3 [c0] = some x0 := by simpa [k1] using hf 0 _ rfl
  have t1 : DataW.trod enc Tryd.prog W 0 (fun _ => true) true n 3 [c1] = some x1 := by simpa [k1] using hf 1 _ rfl
  have t2 : DataW.trod enc Tryd.prog W 0 (fun _ => true) true n 3 [c2] = some x2 := by simpa [k1] using hf 2 _ rfl
  have t3 : DataW.trod enc Tryd.prog W 0 (fun _ => true) true n 3 [c3] = some x3 := by simpa [k1] using hf 3 _ rfl
  have t4 : DataW.trod enc Tryd.prog W 0 (fun _ => true) true n 42 [c4] = some x4 := by simpa [k1, k2] using hf 4 _ rfl
  have t5 : DataW.trod enc Tryd.prog W 0 (fun _ => true) true n 22 [c5] = some x5 := by simpa [k1, k2, k3] using hf 5 _ rfl
  obtain ⟨n0, e0, -, w0⟩ := DataW.trod_int Tryd.underlying3 t0
  obtain ⟨n1, e1, -, w1⟩ := DataW.trod_int Tryd.underlying3 t1
  obtain ⟨n2, e2, -, w2⟩ := DataW.trod_int Tryd.underlying3 t2
  obtain ⟨n3, e3, -, w3⟩ := DataW.trod_int Tryd.underlying3 t3
  cases e0; cases e1; cases e2; cases e3
  have hD : D = .agg [x0.1, x1.1, x2.1, x3.1, x4.1, x5.1] := by simpa using congrArg Prod.fst hx
  obtain ⟨d, hd⟩ := trod_bytes (x := x4) (fun m hm => hw m (by
    rw [hD]
    simp only [DataW.weights, Tryd.underlying73, DataW.weightsEach, List.map_cons, List.map_nil, List.mem_append]
    exact .inr (.inr (.inr (.inr (.inl hm)))))) t4
  obtain ⟨LA, ll, lc, es, Ds, e5, hl, hre, hlc, hcap⟩ := trod_entries (x := x5) (fun m hm => hw m (by
    rw [hD]
    simp only [DataW.weights, Tryd.underlying73, DataW.weightsEach, List.map_cons, List.map_nil, List.mem_append]
    exact .inr (.inr (.inr (.inr (.inr (.inl hm))))))) t5
  have hd2 := hd
  obtain ⟨B, c, rfl, -⟩ := hd2
  subst e5
  subst hl
  refine ⟨⟨n0, n1, n2, n3, B, c, d, LA, lc, es, Ds⟩, ?_, ?_, ?_, ?_, ?_, ?_, hd, hre, hlc, hcap, by simpa using w1⟩
  · have := hat 0 (by omega); simpa [Go.Deep.add_add] using this
  · have := hat 1 (by omega); simpa [Go.Deep.add_add] using this
  · have := hat 2 (by omega); simpa [Go.Deep.add_add] using this
  · have := hat 3 (by omega); simpa [Go.Deep.add_add] using this
  · have := hat 4 (by omega); simpa [Go.Deep.add_add] using this
  · have := hat 5 (by omega); simpa [Go.Deep.add_add] using this
/-- Such an argument. -/
theorem open_actsW {H : Type} {enc : TypeId × Value → H} {W : World} {ts : List TypeId} {ds : List (DataW H)} {j : Nat} {a : Option Addr} {len cap : Nat} {d : DataW H} {p : List MemPlace}
    (hsz : (DataW.weightsEach Tryd.prog ts ds).all (· ≤ reachBytes) = true) (ht : ts[j]? = some 66) (hd : ds[j]? = some d)
    (h : DataW.Trod enc Tryd.prog W 0 (fun _ => true) true 66 (.slice a len cap) d p) :
    ∃ av : List AW, len = av.length ∧ RW W a av ∧ len ≤ cap ∧ cap * 80 ≤ 140737488351232 := by
  obtain ⟨fuel, hf⟩ := h
  have hre : reachBytes = 140737488351232 := rfl
  rcases open_slice Tryd.underlying66 hf with ⟨hcs, _⟩ | ⟨x, l, c, m, n, D, Pl, hcs, _, hl, hm, hmm, hx, hr⟩
  · simp [Value.cells] at hcs
    obtain ⟨rfl, rfl, rfl⟩ := hcs
    exact ⟨[], rfl, RW.nil _ _, by omega, by omega⟩
  · simp [Value.cells] at hcs
    obtain ⟨rfl, rfl, rfl⟩ := hcs
    simp only [Prod.mk.injEq] at hx
    obtain ⟨rfl, _⟩ := hx
    rw [cellsW] at hr
    have hmc : m = cap := by simpa using hmm
    subst hmc
    have hb : Tryd.prog.bytesOf 73 = 80 := by kernel_rfl
    have hall : ∀ i, i < len → ∀ q ∈ (D i).weights Tryd.prog 73, q ≤ reachBytes := fun i hi q hq => by
      refine of_decide_eq_true (List.all_eq_true.1 hsz _ (DataW.weights_mem_each ht hd _ ?_))
      simp only [DataW.weights, Tryd.underlying66, List.mem_cons, List.mem_append]
      exact .inr (.inl (weightsAll_in (List.mem_map.2 ⟨i, List.mem_range.2 hi, rfl⟩) _ hq))
    obtain ⟨y, hy⟩ := choose_lt (n := len) (fun i hi => by
      obtain ⟨cs', hc, ht'⟩ := hr i (by omega)
      exact trod_actW (hall i hi) hc ht')
    refine ⟨(List.range len).map y, by simp, fun k hk => ⟨x, rfl, ?_⟩, hl, ?_⟩
    · have hi : k < len := by simpa using hk
      simp only [List.getElem_map, List.getElem_range]
      exact hy k hi
    · have hw := sized_slice hsz ht hd Tryd.underlying66
      rw [hb] at hw
      simp at hw
      rw [hre] at hw
      have : (len + (m - len)) = m := by omega
      rw [this] at hw
      exact hw
end Go.Proofs.YtkjpfjgaabbggaaDoor
