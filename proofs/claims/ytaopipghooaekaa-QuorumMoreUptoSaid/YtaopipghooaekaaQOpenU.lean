/- What an argument of bounded bulk reads as: numbers; a configuration; matches. -/
import Derived.Test.YtaopipghooaekaaRows
import Derived.Test.YtaopipghooaekaaQOpenM
set_option linter.unusedVariables false
set_option linter.unusedSimpArgs false
namespace Go.Proofs.Ytaopipghooaekaa
open Go.ChangeShapes Go.WideShapes Go.RowKit Go.Deep

theorem bulk_one {H : Type} (d : DataW H) : 1 ≤ Rows.uptoBulk d := by
  cases d with
  | lit l => cases l <;> simp [Rows.uptoBulk]
  | nil => simp [Rows.uptoBulk]
  | ptr d => simp [Rows.uptoBulk]
  | slice elems spare => simp [Rows.uptoBulk]
  | agg parts => simp [Rows.uptoBulk]
  | iface t d => simp [Rows.uptoBulk]
  | map entries => simp [Rows.uptoBulk]
  | held h => simp [Rows.uptoBulk]
theorem bulk_in {H : Type} {d : DataW H} {l : List (DataW H)} (h : d ∈ l) : Rows.uptoBulk d ≤ Rows.uptoBulkAll l := by
  induction l with
  | nil => cases h
  | cons x r ih =>
    simp only [Rows.uptoBulkAll]
    cases List.mem_cons.1 h with
    | inl e => subst e; omega
    | inr e => have := ih e; omega
theorem bulk_len {H : Type} (l : List (DataW H)) : l.length ≤ Rows.uptoBulkAll l := by
  induction l with
  | nil => simp [Rows.uptoBulkAll]
  | cons x r ih => have := bulk_one x; simp only [Rows.uptoBulkAll, List.length_cons]; omega
theorem bulk_slice {H : Type} (elems spare : List (DataW H)) : elems.length + spare.length + 1 ≤ Rows.uptoBulk (.slice elems spare) := by
  have h1 := bulk_len elems
  have h2 := bulk_len spare
  simp only [Rows.uptoBulk]
  omega
theorem bulk_small {H : Type} {l : List (DataW H)} (h : Rows.uptoSmall H l = true) {d : DataW H} (hd : d ∈ l) : Rows.uptoBulk d ≤ 1048576 := by
  have h1 : Rows.uptoBulkAll l ≤ 1048576 := of_decide_eq_true h
  have h2 := bulk_in hd
  omega

/-- A []int argument. -/
theorem open_ints_u {H : Type} {enc : TypeId × Value → H} {W : World} {a : Option Addr} {len cap : Nat} {d : DataW H} {p : List MemPlace} (hb : Rows.uptoBulk d ≤ 1048576)
    (h : DataW.Trod enc Try.prog W 0 (fun _ => true) true 22 (.slice a len cap) d p) :
    ∃ xs : List Int, len = xs.length ∧ xs.length ≤ 1048576 ∧ RI W a xs ∧ (a = none → cap = 0) := by
  obtain ⟨fuel, hf⟩ := h
  rcases open_ints Try.underlying22 Try.underlying3 (by kernel_rfl) hf with ⟨hcs, _⟩ | ⟨x, l, c, zs, hcs, _, hl, hm, hz, hx, hcell, hwz⟩
  · simp [Value.cells] at hcs
    obtain ⟨rfl, rfl, rfl⟩ := hcs
    exact ⟨[], rfl, by simp, RI.nil _ _, fun _ => rfl⟩
  · simp [Value.cells] at hcs
    obtain ⟨rfl, rfl, rfl⟩ := hcs
    have hz' : zs.length = cap := by simpa using hz
    simp only [Prod.mk.injEq] at hx
    obtain ⟨rfl, _⟩ := hx
    have hs := bulk_slice (lits (H := H) .i64 (zs.take len)) (lits .i64 (zs.drop len))
    rw [show (lits (H := H) .i64 (zs.take len)).length = (zs.take len).length by simp [lits], show (lits (H := H) .i64 (zs.drop len)).length = (zs.drop len).length by simp [lits], List.length_take, List.length_drop] at hs
    refine ⟨zs.take len, by simp; omega, by simp; omega, fun i hi => ⟨x, rfl, ?_⟩, fun h => by cases h⟩
    have hi' : i < len := by simp at hi; omega
    rw [hcell i (by omega)]
    simp [List.getD, List.getElem?_eq_getElem (show i < zs.length by omega)]

/-- A configuration. -/
theorem open_conf_u {H : Type} {enc : TypeId × Value → H} {W : World} {v : Value} {d : DataW H} {p : List MemPlace} (hb : Rows.uptoBulk d ≤ 1048576)
    (hok : Value.okWide Try.prog W .any 0 24 v)
    (h : DataW.Trod enc Try.prog W 0 (fun _ => true) true 24 v d p) :
    ∃ a cap, ∃ xs : List Int, v = .agg #[.slice a xs.length cap] ∧ xs.length ≤ 1048576 ∧ RI W a xs := by
  obtain ⟨cs, rfl, hcs⟩ := okWide_struct Try.underlying24 hok
  obtain ⟨fuel, hf⟩ := h
  obtain ⟨y0, m, he, hl, h0⟩ := trod_struct1 Try.underlying24 hf
  have hc : Try.prog.cellsOf 24 = 1 := by kernel_rfl
  rw [hc] at hcs
  obtain ⟨x, rfl⟩ : ∃ x, cs = #[x] := by
    match cs, hcs with
    | ⟨[x]⟩, _ => exact ⟨x, rfl⟩
  have hi : Try.prog.cellsOf 22 = 1 := by kernel_rfl
  have hb2 : Rows.uptoBulk y0.1 ≤ 1048576 := by
    simp only [Prod.mk.injEq] at he
    rw [he.1] at hb
    simp only [Rows.uptoBulk, Rows.uptoBulkAll] at hb
    omega
  have h1 : DataW.trod enc Try.prog W 0 (fun _ => true) true m 22 [x] = some y0 := by
    have h2 : (([x] : List Value).drop 0).take (Try.prog.cellsOf 22) = [x] := by rw [hi]; rfl
    rw [← h2]
    exact h0
  have h3 : ∃ a l c, x = .slice a l c := by
    rcases open_ints Try.underlying22 Try.underlying3 (by kernel_rfl) h1 with ⟨hcs, _⟩ | ⟨b, l, c, zs, hcs, _⟩
    · exact ⟨none, 0, 0, by simpa using hcs⟩
    · exact ⟨some b, l, c, by simpa using hcs⟩
  obtain ⟨a, l, c, rfl⟩ := h3
  obtain ⟨xs, rfl, h4, h5, h6⟩ := open_ints_u hb2 ⟨m, h1⟩
  exact ⟨a, c, xs, rfl, h4, h5⟩

/-- A []api.Match argument. -/
theorem open_matches_u {H : Type} {enc : TypeId × Value → H} {W : World} {a : Option Addr} {len cap : Nat} {d : DataW H} {p : List MemPlace} (hb : Rows.uptoBulk d ≤ 1048576)
    (h : DataW.Trod enc Try.prog W 0 (fun _ => true) true 33 (.slice a len cap) d p) :
    ∃ ms : List (Int × Int), len = ms.length ∧ ms.length ≤ 1048576 ∧ RM W a ms ∧ ∀ m ∈ ms, (Lit.int .i64 m.2).wf = true := by
  obtain ⟨fuel, hf⟩ := h
  rcases open_slice Try.underlying33 hf with ⟨hcs, _⟩ | ⟨x, l, c, m, n, D, Pl, hcs, _, hl, hm, hmm, hx, hr⟩
  · simp [Value.cells] at hcs
    obtain ⟨rfl, rfl, rfl⟩ := hcs
    exact ⟨[], rfl, by simp, RM.nil _ _, fun m h => by simp at h⟩
  · simp [Value.cells] at hcs
    obtain ⟨rfl, rfl, rfl⟩ := hcs
    simp only [Prod.mk.injEq] at hx
    obtain ⟨rfl, _⟩ := hx
    rw [cellsM] at hr
    have hmc : m = cap := by simpa using hmm
    subst hmc
    have hs := bulk_slice ((List.range len).map D) ((List.range (m - len)).map fun j => D (len + j))
    simp at hs
    obtain ⟨y, hy⟩ := choose_lt (n := len) (fun i hi => by
      obtain ⟨cs', hc, ht'⟩ := hr i (by omega)
      exact trod_match hc ht')
    refine ⟨(List.range len).map y, by simp, by simp; omega, fun i hi => ⟨x, rfl, ?_⟩, fun q hq => ?_⟩
    · have hi : i < len := by simpa using hi
      simp only [List.getElem_map, List.getElem_range]
      exact (hy i hi).1
    · obtain ⟨i, hi, rfl⟩ := List.mem_map.1 hq
      exact (hy i (by simpa using hi)).2
end Go.Proofs.Ytaopipghooaekaa
