/- muntinlaw22.copied: the contract; a slice's cells that may be written. -/
import Derived.Test.YtaopipghooaekaaDoorQRefChange
import Derived.Test.YtaopipghooaekaaDoorQSame
import Derived.Test.YtaopipghooaekaaDoorCodeAny
import Derived.Laws.AppendOwnNone
import Derived.Deep.CutBlock
set_option linter.unusedVariables false
set_option linter.unusedSimpArgs false
namespace Go.Proofs.YtaopipghooaekaaDoor
open Go.RowKit

/-- a new row of no number -/
theorem own_none (w : World) : (w.alloc (.cells #[] 3)).ownsRow w.heap.size 3 1 (.slice (some ⟨w.heap.size, 0, none⟩) 0 0) 0 (iv []) :=
  ⟨rfl, .inr ⟨w.heap.size, 0, _, rfl, Nat.le_refl _, heap_alloc_new w _, Nat.le_refl _, by unfold maxLen; omega, rfl, rfl⟩⟩
/-- 'append' of numbers to numbers of the call's own -/
theorem wpList_append_ints {ops : Array Oper} {rest : List Oper} {o : Oper} {a : Act} {Q : Exit → Act → World → Prop} {w : World} (hgd : o.guard = none) (s x : Operand)
    (ho : o.op = .call { callee := .builtin .append, args := #[s, x], argTypes := #[22, 22] })
    (base : Nat) (v : Value) (xs bs : List Int) (n m c : Nat) (A : Option Addr) (hs : a.eval s = v) (hx : a.eval x = .slice A m c)
    (hown : w.ownsRow base 3 1 v n (iv xs)) (hr : RI w A bs) (hm : bs.length = m) (hA : A = none → c = 0)
    (hlen : n + m ≤ 17592186044416) (hbase : base ≤ w.heap.size)
    (h : ∀ v' w', w'.ownsRow base 3 1 v' (n + m) (iv (xs ++ bs)) → w.grownBy w' v.ownBlock → wpList Tryd.prog ops Q rest (a.put o.dst v') w') : wpList Tryd.prog ops Q (o :: rest) a w := by
  obtain ⟨i0, hi, hz0, hz1, hz2⟩ := info_parts info_int
  subst hm
  cases A with
  | none =>
    obtain rfl := hA rfl
    have h0 : bs = [] := by
      cases bs with
      | nil => rfl
      | cons b bs => obtain ⟨a, ha, _⟩ := hr 0 (by simp); cases ha
    subst h0
    refine wpList_append_own_none hgd s x 22 ho base 3 i0 1 Tryd.underlying22 hi v n (iv xs) hs hown hx (h v w ?_ ⟨rfl, rfl, rfl, Nat.le_refl _, fun _ _ _ => rfl⟩)
    simpa using hown
  | some ad =>
    refine wpList_append_own w hgd s x 22 ho base 3 i0 (.int .i64 0) 1 8 Tryd.underlying22 hi hz0 hz1 hz2 rfl (by decide) v n (iv xs) hs hown ad bs.length c (iv bs) hx (by simp) ?_ (iv_one bs) (by unfold maxLen; omega) (by omega) hbase ?_
    · intro j u hj
      have hj' : j < bs.length := by have := (List.getElem?_eq_some_iff.1 hj).1; simpa using this
      obtain ⟨a', ha', hcell⟩ := hr j hj'
      obtain rfl := Option.some.inj ha'
      rw [show (iv bs)[j]? = some (.int .i64 bs[j]) by simp [iv, hj']] at hj
      rw [hcell]; exact hj
    · intro v' w' h1 h2 _
      rw [← iv_append] at h1
      exact h v' w' h1 h2


set_option maxRecDepth 100000 in
set_option maxHeartbeats 1000000 in
theorem copied_any (A : Option Addr) (n c : Nat) (ns : List Int) (w : World) (hr : RI w A ns) (hl : ns.length = n) (hn : n ≤ 17592186044416) (hA : A = none → c = 0) :
    Calls Tryd.prog 6 #[.agg #[.slice A n c]] w fun e w' => ∃ V cv, e = .returned (.agg #[.slice V n cv]) ∧ w'.ownsRow w.heap.size 3 1 (.slice V n cv) n (iv ns) ∧ Below w.heap.size w w' := by
  obtain ⟨wb, hwb⟩ : ∃ wb, wb = (w.alloc (.cells #[.slice A n c] 24)).alloc (.cells #[.slice none 0 0] 24) := ⟨_, rfl⟩
  have b : Below w.heap.size w wb := by rw [hwb]; exact (below_alloc w _).alloc (below_alloc w _).size _
  have hb2 : wb.heap[w.heap.size + 1]? = some (.cells #[.slice none 0 0] 24 (0, 0)) := by
    rw [hwb]
    have := heap_alloc_new (w.alloc (.cells #[.slice A n c] 24)) (.cells #[.slice none 0 0] 24)
    simpa using this
  have hsz : wb.heap.size = w.heap.size + 1 + 1 := by rw [hwb]; simp
  have k1 : wb.cell? ⟨w.heap.size, 0, none⟩ = some (.slice A n c) := by rw [hwb]; exact (box_cell2r (Below.refl _ _)).1
  have k2 := below_cell (below_alloc wb (.cells #[] 3)) k1
  have HB2 := Lib.hid hb2
  have HSZ := Lib.hid hsz
  have HW := Lib.hid hwb
  have HR := Lib.hid (hr.below b)
  have HL := Lib.hid hl
  have HA := Lib.hid hA
  clear hr hl hA hwb hb2 hsz
  go_enter Tryd.func6, Tryd.ntmps6
  go_upto_region 1 with fail
  rw [← HW.out]
  go_wp2_with (at_builtin; refine wpList_append_ints rfl (.tmp 3) (.tmp 5) rfl wb.heap.size (.slice (some ⟨wb.heap.size, 0, none⟩) 0 0) [] ns 0 n c A rfl rfl (own_none wb) (HR.out.below (below_alloc wb _)) HL.out HA.out (by omega) (by simp) ?_; intro v3 w3 own3 hg3; rw [Nat.zero_add, List.nil_append] at own3; (have g3 := (below_alloc wb (.cells #[] 3)).grown hg3 (below_alloc wb _).size (fun k hk => ((own_none wb).lt k hk).1)); obtain ⟨q3, f3⟩ := errs_cell ((g3.block _ (by rw [HSZ.out]; omega)).trans HB2.out); obtain ⟨V3, c3, rfl, -, -⟩ := own_shape own3)
  have q := World.cell?_setCell_same _ _ (.slice V3 n c3) q3
  refine bodyPost_ret (v := .agg #[.slice V3 n c3]) (by simp [results, Tryd.results6, go_sem, q]) rfl ⟨V3, c3, rfl, ?_, (b.trans (g3.mono b.size)).setCell (by simp) _⟩
  have o2 := own_stepq own3 (w' := w3.setCell ⟨w.heap.size + 1, 0, none⟩ (.slice V3 n c3)) (fun k hk => heap_setCell_other _ _ _ _ (by
    have := (own3.lt k hk).1
    rw [HSZ.out] at this
    show k ≠ w.heap.size + 1
    omega))
  refine ⟨o2.1, ?_⟩
  rcases o2.2 with h | ⟨g, cap, cur, h1, hg, r⟩
  · exact .inl h
  · exact .inr ⟨g, cap, cur, h1, Nat.le_trans b.size hg, r⟩

/-- cells that are there and may be written -/
def WR (w : World) (g o m : Nat) : Prop := ∀ j, j < m → (∃ v, w.cell? ⟨g, o + j, none⟩ = some v) ∧ w.frozen? ⟨g, o + j, none⟩ = false
theorem WR.set {w : World} {g o m : Nat} (h : WR w g o m) (a : Addr) (v : Value) : WR (w.setCell a v) g o m := by
  intro j hj
  obtain ⟨⟨u, hu⟩, hf⟩ := h j hj
  refine ⟨?_, by rw [World.frozen?_setCell]; exact hf⟩
  by_cases ha : a = ⟨g, o + j, none⟩
  · subst ha
    exact ⟨v, World.cell?_setCell_same _ _ _ hu⟩
  · exact ⟨u, by rw [World.cell?_setCell_other _ _ _ _ ha]; exact hu⟩
theorem grown_set {w w' : World} {g : Nat} (h : w.grownBy w' (some g)) (a : Addr) (v : Value) (ha : a.block = g) : w.grownBy (w'.setCell a v) (some g) :=
  ⟨h.os, h.tape, h.output, by rw [World.size_setCell]; exact h.size, fun k hk hne => by
    rw [heap_setCell_other _ _ _ _ (by rw [ha]; rintro rfl; exact hne rfl)]
    exact h.block k hk hne⟩
theorem RI.grown {w w' : World} {A : Option Addr} {ns : List Int} {g : Nat} (h : RI w A ns) (r : w.grownBy w' (some g)) (hne : ∀ a, A = some a → 0 < ns.length → a.block ≠ g) : RI w' A ns :=
  h.step fun a ha h0 => r.block _ (h.lt ha h0) (by simpa using hne a ha h0)
theorem cell_grown {w w' : World} {g : Nat} {a : Addr} {v : Value} (r : w.grownBy w' (some g)) (h : w.cell? a = some v) (hne : a.block ≠ g) : w'.cell? a = some v := by
  rw [World.cell?_of_block (w := w) (r.block _ (World.block_lt_of_cell? _ _ h) (by simpa using hne))]
  exact h
end Go.Proofs.YtaopipghooaekaaDoor
