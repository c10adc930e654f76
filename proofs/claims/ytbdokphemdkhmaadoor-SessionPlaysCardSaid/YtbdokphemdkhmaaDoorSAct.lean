/- What a slice of acts, or of sessions, reads as: three numbers and bytes each; such an argument. -/
import Derived.Test.YtbdokphemdkhmaaDoorSTab
import Derived.Test.YtbdokphemdkhmaaDoorOpen
import Derived.Deep.Slices
import Derived.Deep.Fields
import Derived.ChangeSame
set_option linter.unusedVariables false
set_option linter.unusedSimpArgs false
namespace Go.Proofs.YtbdokphemdkhmaaDoor
open Go.ChangeShapes Go.WideShapes Go.RowKit Go.Deep

/-- a row of three numbers and bytes each -/
def RA (w : World) (A : Option Addr) (av : List SV) : Prop := ∀ k (h : k < av.length), ∃ a, A = some a ∧ w.cell? (a.add (k * 4)) = some (.int .i64 av[k].i) ∧ w.cell? (a.add (k * 4 + 1)) = some (.int .i64 av[k].l) ∧ w.cell? (a.add (k * 4 + 2)) = some (.int .i64 av[k].u) ∧
  w.cell? (a.add (k * 4 + 3)) = some av[k].D ∧ RD w av[k].D av[k].r ∧ (Lit.int .i64 av[k].i).wf = true ∧ (Lit.int .i64 av[k].l).wf = true ∧ (Lit.int .i64 av[k].u).wf = true
theorem RA.nil (w : World) (A : Option Addr) : RA w A [] := fun k h => by simp at h
theorem RA.below {w w' : World} {A : Option Addr} {av : List SV} (h : RA w A av) (b : Below w.heap.size w w') : RA w' A av := fun k hk => by
  obtain ⟨a, e, c0, c1, c2, c3, c4, r⟩ := h k hk
  exact ⟨a, e, below_cell b c0, below_cell b c1, below_cell b c2, below_cell b c3, c4.below b, r⟩
theorem RA.addr {w : World} {A : Option Addr} {av : List SV} (h : RA w A av) (h0 : 0 < av.length) : ∃ g o, A = some ⟨g, o, none⟩ ∧ g < w.heap.size ∧ ∀ k (hk : k < av.length), w.cell? ⟨g, o + k * 4, none⟩ = some (.int .i64 av[k].i) ∧ w.cell? ⟨g, o + k * 4 + 1, none⟩ = some (.int .i64 av[k].l) ∧ w.cell? ⟨g, o + k * 4 + 2, none⟩ = some (.int .i64 av[k].u) ∧
    w.cell? ⟨g, o + k * 4 + 3, none⟩ = some av[k].D ∧ RD w av[k].D av[k].r ∧ (Lit.int .i64 av[k].i).wf = true ∧ (Lit.int .i64 av[k].l).wf = true ∧ (Lit.int .i64 av[k].u).wf = true := by
  obtain ⟨⟨g, o, s⟩, rfl, hc, _⟩ := h 0 h0
  have hs : s = none := by
    cases s with
    | none => rfl
    | some x => simp [World.cell?, Addr.add] at hc; split at hc <;> simp_all
  subst hs
  refine ⟨g, o, rfl, ?_, fun k hk => ?_⟩
  · have := World.block_lt_of_cell? _ _ hc
    simpa [Addr.add] using this
  · obtain ⟨a, e, c0, c1, c2, c3, r⟩ := h k hk
    cases e
    rw [Addr.add_lit] at c0 c1 c2 c3
    exact ⟨c0, by rw [Nat.add_assoc]; exact c1, by rw [Nat.add_assoc]; exact c2, by rw [Nat.add_assoc]; exact c3, r⟩
/-- a []byte as a field: its bytes -/
theorem trod_bytes {H : Type} {enc : TypeId × Value → H} {W : World} {fuel : Nat} {v : Value} {x : DataW H × List MemPlace} (hw : ∀ n ∈ x.1.weights Tryd.prog 28, n ≤ reachBytes)
    (h : DataW.trod enc Tryd.prog W 0 (fun _ => true) true fuel 28 [v] = some x) : ∃ d, RD W v d := by
  rcases open_ints Tryd.underlying28 Tryd.underlying5 (by kernel_rfl) h with ⟨hcs, _⟩ | ⟨a, l, c, zs, hcs, _, hl, hm, hz, hx, hcell, hwz⟩
  · cases hcs
    exact ⟨[], none, 0, rfl, RB.nil _ _, by simp, by simp, fun _ => rfl⟩
  · cases hcs
    have hz' : zs.length = c := by simpa using hz
    obtain ⟨bs, h1, h2⟩ := bytes_of_ints hl hz' hcell hwz
    subst h1
    refine ⟨bs, some a, c, rfl, h2, hl, ?_, fun h => by cases h⟩
    have hb : Tryd.prog.bytesOf 5 = 1 := by kernel_rfl
    have := hw (c * 1) (by
      rw [hx]
      simp only [DataW.weights, Tryd.underlying28, List.mem_cons]
      left
      rw [hb]
      simp [lits, hz']
      omega)
    have hr : reachBytes = 140737488351232 := rfl
    omega
theorem weightsAll_in {H : Type} {P : Program} {e : TypeId} : ∀ {l : List (DataW H)} {d : DataW H}, d ∈ l → ∀ n ∈ d.weights P e, n ∈ DataW.weightsAll P e l
  | d' :: r, d, hd, n, hn => by
    simp only [DataW.weightsAll, List.mem_append]
    rcases List.mem_cons.1 hd with rfl | h
    · exact Or.inl hn
    · exact Or.inr (weightsAll_in h n hn)
theorem cells_acts : Tryd.prog.cellsOf 30 = 4 := by kernel_rfl
set_option maxRecDepth 100000 in
/-- one of them -/
theorem trod_acts {H : Type} {enc : TypeId × Value → H} {W : World} {fuel : Nat} {a : Addr} {i : Nat} {cs : List Value} {D : DataW H} {pl : List MemPlace} (hw : ∀ n ∈ D.weights Tryd.prog 30, n ≤ reachBytes)
    (hc : W.cells? 0 (a.add (i * 4)) 4 = some cs) (h : DataW.trod enc Tryd.prog W 0 (fun _ => true) true fuel 30 cs = some (D, pl)) :
    ∃ x : SV, W.cell? (a.add (i * 4)) = some (.int .i64 x.i) ∧ W.cell? (a.add (i * 4 + 1)) = some (.int .i64 x.l) ∧ W.cell? (a.add (i * 4 + 2)) = some (.int .i64 x.u) ∧ W.cell? (a.add (i * 4 + 3)) = some x.D ∧ RD W x.D x.r ∧ (Lit.int .i64 x.i).wf = true ∧ (Lit.int .i64 x.l).wf = true ∧ (Lit.int .i64 x.u).wf = true := by
  obtain ⟨xs, n, _, hx, hlen, hxl, hf⟩ := DataW.trod_struct Tryd.underlying30 h
  obtain ⟨_, hcl, hat⟩ := World.cells?_some hc
  match cs, hcl with
  | [c0, c1, c2, c3], _ =>
  match xs, hxl with
  | [x0, x1, x2, x3], _ =>
  have k1 : Tryd.prog.cellsOf 3 = 1 := by kernel_rfl
  have k2 : Tryd.prog.cellsOf 28 = 1 := by kernel_rfl
  have t0 : DataW.trod enc Tryd.prog W 0 (fun _ => true) true n 3 [c0] = some x0 := by simpa [k1] using hf 0 _ rfl
  have t1 : DataW.trod enc Tryd.prog W 0 (fun _ => true) true n 3 [c1] = some x1 := by simpa [k1] using hf 1 _ rfl
  have t2 : DataW.trod enc Tryd.prog W 0 (fun _ => true) true n 3 [c2] = some x2 := by simpa [k1] using hf 2 _ rfl
  have t3 : DataW.trod enc Tryd.prog W 0 (fun _ => true) true n 28 [c3] = some x3 := by simpa [k2] using hf 3 _ rfl
  obtain ⟨n0, e0, -, w0⟩ := DataW.trod_int Tryd.underlying3 t0
  obtain ⟨n1, e1, -, w1⟩ := DataW.trod_int Tryd.underlying3 t1
  obtain ⟨n2, e2, -, w2⟩ := DataW.trod_int Tryd.underlying3 t2
  cases e0; cases e1; cases e2
  obtain ⟨d, hd⟩ := trod_bytes (x := x3) (fun m hm => hw m (by
    have hD : D = .agg [x0.1, x1.1, x2.1, x3.1] := by simpa using congrArg Prod.fst hx
    rw [hD]
    simp only [DataW.weights, Tryd.underlying30, DataW.weightsEach, List.map_cons, List.map_nil, List.mem_append]
    exact .inr (.inr (.inr (.inl hm))))) t3
  have hd2 := hd
  obtain ⟨B, c, rfl, -⟩ := hd2
  refine ⟨⟨n0, n1, n2, B, c, d⟩, ?_, ?_, ?_, ?_, hd, by simpa using w0, by simpa using w1, by simpa using w2⟩
  · have := hat 0 (by omega); simpa [Go.Deep.add_add] using this
  · have := hat 1 (by omega); simpa [Go.Deep.add_add] using this
  · have := hat 2 (by omega); simpa [Go.Deep.add_add] using this
  · have := hat 3 (by omega); simpa [Go.Deep.add_add, SV.D] using this
/-- Such an argument. -/
theorem open_acts {H : Type} {enc : TypeId × Value → H} {W : World} {ts : List TypeId} {ds : List (DataW H)} {j : Nat} {a : Option Addr} {len cap : Nat} {d : DataW H} {p : List MemPlace}
    (hsz : (DataW.weightsEach Tryd.prog ts ds).all (· ≤ reachBytes) = true) (ht : ts[j]? = some 22) (hd : ds[j]? = some d)
    (h : DataW.Trod enc Tryd.prog W 0 (fun _ => true) true 22 (.slice a len cap) d p) :
    ∃ av : List SV, len = av.length ∧ RA W a av ∧ len ≤ cap ∧ cap * 48 ≤ 140737488351232 := by
  obtain ⟨fuel, hf⟩ := h
  have hre : reachBytes = 140737488351232 := rfl
  rcases open_slice Tryd.underlying22 hf with ⟨hcs, _⟩ | ⟨x, l, c, m, n, D, Pl, hcs, _, hl, hm, hmm, hx, hr⟩
  · simp [Value.cells] at hcs
    obtain ⟨rfl, rfl, rfl⟩ := hcs
    exact ⟨[], rfl, RA.nil _ _, by omega, by omega⟩
  · simp [Value.cells] at hcs
    obtain ⟨rfl, rfl, rfl⟩ := hcs
    simp only [Prod.mk.injEq] at hx
    obtain ⟨rfl, _⟩ := hx
    rw [cells_acts] at hr
    have hmc : m = cap := by simpa using hmm
    subst hmc
    have hb : Tryd.prog.bytesOf 30 = 48 := by kernel_rfl
    have hall : ∀ i, i < len → ∀ q ∈ (D i).weights Tryd.prog 30, q ≤ reachBytes := fun i hi q hq => by
      refine of_decide_eq_true (List.all_eq_true.1 hsz _ (DataW.weights_mem_each ht hd _ ?_))
      simp only [DataW.weights, Tryd.underlying22, List.mem_cons, List.mem_append]
      exact .inr (.inl (weightsAll_in (List.mem_map.2 ⟨i, List.mem_range.2 hi, rfl⟩) _ hq))
    obtain ⟨y, hy⟩ := choose_lt (n := len) (fun i hi => by
      obtain ⟨cs', hc, ht'⟩ := hr i (by omega)
      exact trod_acts (hall i hi) hc ht')
    refine ⟨(List.range len).map y, by simp, fun k hk => ⟨x, rfl, ?_⟩, hl, ?_⟩
    · have hi : k < len := by simpa using hk
      simp only [List.getElem_map, List.getElem_range]
      exact hy k hi
    · have hw := sized_slice hsz ht hd Tryd.underlying22
      rw [hb] at hw
      simp at hw
      rw [hre] at hw
      have : (len + (m - len)) = m := by omega
      rw [this] at hw
      exact hw
theorem cells_sess : Tryd.prog.cellsOf 44 = 4 := by kernel_rfl
set_option maxRecDepth 100000 in
/-- one of them -/
theorem trod_sess {H : Type} {enc : TypeId × Value → H} {W : World} {fuel : Nat} {a : Addr} {i : Nat} {cs : List Value} {D : DataW H} {pl : List MemPlace} (hw : ∀ n ∈ D.weights Tryd.prog 44, n ≤ reachBytes)
    (hc : W.cells? 0 (a.add (i * 4)) 4 = some cs) (h : DataW.trod enc Tryd.prog W 0 (fun _ => true) true fuel 44 cs = some (D, pl)) :
    ∃ x : SV, W.cell? (a.add (i * 4)) = some (.int .i64 x.i) ∧ W.cell? (a.add (i * 4 + 1)) = some (.int .i64 x.l) ∧ W.cell? (a.add (i * 4 + 2)) = some (.int .i64 x.u) ∧ W.cell? (a.add (i * 4 + 3)) = some x.D ∧ RD W x.D x.r ∧ (Lit.int .i64 x.i).wf = true ∧ (Lit.int .i64 x.l).wf = true ∧ (Lit.int .i64 x.u).wf = true := by
  obtain ⟨xs, n, _, hx, hlen, hxl, hf⟩ := DataW.trod_struct Tryd.underlying44 h
  obtain ⟨_, hcl, hat⟩ := World.cells?_some hc
  match cs, hcl with
  | [c0, c1, c2, c3], _ =>
  match xs, hxl with
  | [x0, x1, x2, x3], _ =>
  have k1 : Tryd.prog.cellsOf 3 = 1 := by kernel_rfl
  have k2 : Tryd.prog.cellsOf 28 = 1 := by kernel_rfl
  have t0 : DataW.trod enc Tryd.prog W 0 (fun _ => true) true n 3 [c0] = some x0 := by simpa [k1] using hf 0 _ rfl
  have t1 : DataW.trod enc Tryd.prog W 0 (fun _ => true) true n 3 [c1] = some x1 := by simpa [k1] using hf 1 _ rfl
  have t2 : DataW.trod enc Tryd.prog W 0 (fun _ => true) true n 3 [c2] = some x2 := by simpa [k1] using hf 2 _ rfl
  have t3 : DataW.trod enc Tryd.prog W 0 (fun _ => true) true n 28 [c3] = some x3 := by simpa [k2] using hf 3 _ rfl
  obtain ⟨n0, e0, -, w0⟩ := DataW.trod_int Tryd.underlying3 t0
  obtain ⟨n1, e1, -, w1⟩ := DataW.trod_int Tryd.underlying3 t1
  obtain ⟨n2, e2, -, w2⟩ := DataW.trod_int Tryd.underlying3 t2
  cases e0; cases e1; cases e2
  obtain ⟨d, hd⟩ := trod_bytes (x := x3) (fun m hm => hw m (by
    have hD : D = .agg [x0.1, x1.1, x2.1, x3.1] := by simpa using congrArg Prod.fst hx
    rw [hD]
    simp only [DataW.weights, Tryd.underlying44, DataW.weightsEach, List.map_cons, List.map_nil, List.mem_append]
    exact .inr (.inr (.inr (.inl hm))))) t3
  have hd2 := hd
  obtain ⟨B, c, rfl, -⟩ := hd2
  refine ⟨⟨n0, n1, n2, B, c, d⟩, ?_, ?_, ?_, ?_, hd, by simpa using w0, by simpa using w1, by simpa using w2⟩
  · have := hat 0 (by omega); simpa [Go.Deep.add_add] using this
  · have := hat 1 (by omega); simpa [Go.Deep.add_add] using this
  · have := hat 2 (by omega); simpa [Go.Deep.add_add] using this
  · have := hat 3 (by omega); simpa [Go.Deep.add_add, SV.D] using this
/-- Such an argument. -/
theorem open_sess {H : Type} {enc : TypeId × Value → H} {W : World} {ts : List TypeId} {ds : List (DataW H)} {j : Nat} {a : Option Addr} {len cap : Nat} {d : DataW H} {p : List MemPlace}
    (hsz : (DataW.weightsEach Tryd.prog ts ds).all (· ≤ reachBytes) = true) (ht : ts[j]? = some 38) (hd : ds[j]? = some d)
    (h : DataW.Trod enc Tryd.prog W 0 (fun _ => true) true 38 (.slice a len cap) d p) :
    ∃ av : List SV, len = av.length ∧ RA W a av ∧ len ≤ cap ∧ cap * 48 ≤ 140737488351232 := by
  obtain ⟨fuel, hf⟩ := h
  have hre : reachBytes = 140737488351232 := rfl
  rcases open_slice Tryd.underlying38 hf with ⟨hcs, _⟩ | ⟨x, l, c, m, n, D, Pl, hcs, _, hl, hm, hmm, hx, hr⟩
  · simp [Value.cells] at hcs
    obtain ⟨rfl, rfl, rfl⟩ := hcs
    exact ⟨[], rfl, RA.nil _ _, by omega, by omega⟩
  · simp [Value.cells] at hcs
    obtain ⟨rfl, rfl, rfl⟩ := hcs
    simp only [Prod.mk.injEq] at hx
    obtain ⟨rfl, _⟩ := hx
    rw [cells_sess] at hr
    have hmc : m = cap := by simpa using hmm
    subst hmc
    have hb : Tryd.prog.bytesOf 44 = 48 := by kernel_rfl
    have hall : ∀ i, i < len → ∀ q ∈ (D i).weights Tryd.prog 44, q ≤ reachBytes := fun i hi q hq => by
      refine of_decide_eq_true (List.all_eq_true.1 hsz _ (DataW.weights_mem_each ht hd _ ?_))
      simp only [DataW.weights, Tryd.underlying38, List.mem_cons, List.mem_append]
      exact .inr (.inl (weightsAll_in (List.mem_map.2 ⟨i, List.mem_range.2 hi, rfl⟩) _ hq))
    obtain ⟨y, hy⟩ := choose_lt (n := len) (fun i hi => by
      obtain ⟨cs', hc, ht'⟩ := hr i (by omega)
      exact trod_sess (hall i hi) hc ht')
    refine ⟨(List.range len).map y, by simp, fun k hk => ⟨x, rfl, ?_⟩, hl, ?_⟩
    · have hi : k < len := by simpa using hk
      simp only [List.getElem_map, List.getElem_range]
      exact hy k hi
    · have hw := sized_slice hsz ht hd Tryd.underlying38
      rw [hb] at hw
      simp at hw
      rw [hre] at hw
      have : (len + (m - len)) = m := by omega
      rw [this] at hw
      exact hw
end Go.Proofs.YtbdokphemdkhmaaDoor
