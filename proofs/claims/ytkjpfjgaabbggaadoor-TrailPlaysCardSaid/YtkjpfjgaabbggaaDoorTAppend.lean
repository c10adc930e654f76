/- 'append' of entries and of bytes, with no bound on the old capacity. -/
import Derived.Test.YtkjpfjgaabbggaaDoorTEnt
import Derived.Test.YtkjpfjgaabbggaaDoorLent
import Derived.Test.YtkjpfjgaabbggaaDoorGrow
import Derived.Deep.DeepAppendRoom
import Derived.Laws.OwnMore
set_option linter.unusedVariables false
set_option linter.unusedSimpArgs false
namespace Go.Proofs.YtkjpfjgaabbggaaDoor
open Go.RowKit

theorem info_entry : (Tryd.prog.info? 44).map (fun i => (i.zero, i.size, i.bytes)) = some (some (.agg #[.int .i64 0, .int .i64 0, .int .i64 0, .slice none 0 0]), 4, 48) := by kernel_rfl
theorem own_cell {w : World} {base g : Nat} {e : TypeId} {size n cap : Nat} {xs : List Value} (h : w.ownsRow base e size (.slice (some ⟨g, 0, none⟩) n cap) n xs) (j : Nat) (u : Value) (hj : xs[j]? = some u) :
    w.cell? ⟨g, j, none⟩ = some u ∧ w.frozen? ⟨g, j, none⟩ = false := by
  rcases h.2 with ⟨h1, _⟩ | ⟨g', cap', cur, h1, hb, hh, r1, r2, r3, r4⟩
  · cases h1
  · cases h1
    have hl := (List.getElem?_eq_some_iff.1 hj).1
    rw [h.1] at hl
    rw [← r4, List.getElem?_take_of_lt hl] at hj
    constructor
    · simp only [World.cell?, hh, Option.isSome_none, Bool.false_eq_true, ↓reduceIte]
      simpa using hj
    · simp [World.frozen?, hh]

/-- one row of entries behind another -/
theorem run_append_ent {w : World} (base : Nat) (v : Value) (n : Nat) (es : List Ent) (Ds : List Value) (hD : Ds.length = es.length) (hl : es.length = n) (hown : w.ownsRow base 44 4 v n (ecells es Ds)) (a : Addr) (m c : Nat) (fs : List Ent) (Fs : List Value) (hF : Fs.length = fs.length) (hm : fs.length = m)
    (hnews : ∀ j u, (ecells fs Fs)[j]? = some u → w.cell? (a.add j) = some u) (h1 : ∀ u ∈ ecells fs Fs, u.oneCell' = true) (hn : n + m ≤ 4200000000000) (h0 : v = .slice none 0 0 → m * 48 ≤ 140737488355328) (hbase : base ≤ w.heap.size) :
    ∃ v' w', (Builtin.append_ #[22, 22] 22 #[v, .slice (some a) m c]).run Tryd.prog w = .ok v' w' ∧ w'.ownsRow base 44 4 v' (n + m) (ecells (es ++ fs) (Ds ++ Fs)) ∧ w.grownBy w' v.ownBlock ∧ (v'.ownBlock = v.ownBlock ∨ ∀ k, v'.ownBlock = some k → w.heap.size ≤ k) ∧ (v' = .slice none 0 0 → v = .slice none 0 0) := by
  obtain ⟨i0, hi, hz0, hz1, hz2⟩ := info_parts info_entry
  rw [ecells_append fs Fs hD]
  have hlf : (ecells fs Fs).length = m * 4 := by rw [ecells_length hF, hm]
  rcases hown.2 with ⟨rfl, rfl⟩ | ⟨g, cap, cur, rfl, hg, hh, r1, r2, r3, r4⟩
  · obtain rfl : es = [] := List.eq_nil_of_length_eq_zero hl
    obtain rfl : Ds = [] := List.eq_nil_of_length_eq_zero hD
    obtain ⟨v', w', hrun, q1, q2, _⟩ := run_append_own (P := Tryd.prog) w w.heap.size 22 22 44 i0 _ 4 48 Tryd.underlying22 hi hz0 hz1 hz2 rfl (by decide) (.slice none 0 0) 0 [] (World.ownsRow_nil w _ 44 4) a m c (ecells fs Fs) hlf hnews h1 (by unfold maxLen; omega) (by have := h0 rfl; omega) (Nat.le_refl _)
    exact ⟨v', w', hrun, ⟨by simpa [ecells] using q1.1, by
      rcases q1.2 with ⟨e1, e2⟩ | ⟨g, cap, cur, e1, e2, e3, e4, e5, e6, e7⟩
      · exact .inl ⟨e1, e2⟩
      · exact .inr ⟨g, cap, cur, e1, Nat.le_trans hbase e2, e3, e4, e5, e6, by simpa [ecells] using e7⟩⟩, q2, .inr fun k hk => (q1.lt k hk).1, fun _ => rfl⟩
  · by_cases hroom : n + m ≤ cap
    · obtain ⟨w', hrun, q1, q2⟩ := run_append_own_spare (P := Tryd.prog) w base 22 22 44 i0 4 Tryd.underlying22 hi hz1 g n cap (ecells es Ds) hown a m c (ecells fs Fs) hlf hnews h1 hroom
      exact ⟨_, w', hrun, q1, q2, .inl rfl, fun h => by cases h⟩
    · have hq := nextslicecap_q (need := n + m) (old := cap) (by omega)
      obtain ⟨v', w', hrun, q1, q2⟩ := append_grows_fit (P := Tryd.prog) w 22 22 44 i0 _ 4 48 Tryd.underlying22 hi hz0 hz1 hz2 rfl (by decide) (some ⟨g, 0, none⟩) n cap (ecells es Ds) (fun h => by cases h) hown.1 (fun b hb j u hu => by
        cases hb
        rw [Addr.add_lit, Nat.zero_add]
        exact (own_cell hown j u hu).1) a m c (ecells fs Fs) hlf hnews h1 (by omega) (by omega) (by omega) (fun h => by cases h)
      exact ⟨v', w', hrun, own_lower q1 hbase, ⟨q2.os, q2.tape, q2.output, q2.size, fun k hk _ => q2.block k hk (by simp)⟩, .inr fun k hk => (q1.lt k hk).1, fun h => by
        rcases q1.2 with ⟨_, e2⟩ | ⟨_, _, _, e1, _⟩
        · omega
        · rw [h] at e1; cases e1⟩
/-- bytes behind bytes -/
theorem run_append_bytes {w : World} (base : Nat) (v : Value) (n : Nat) (xs bs : List UInt8) (A : Option Addr) (m c : Nat) (hown : w.ownsRow base 5 1 v n (bv xs)) (hr : RB w A bs) (hm : bs.length = m) (hA : A = none → c = 0)
    (hlen : n + m ≤ 140737488355328) (hbase : base ≤ w.heap.size) :
    ∃ v' w', (Builtin.append_ #[42, 42] 42 #[v, .slice A m c]).run Tryd.prog w = .ok v' w' ∧ w'.ownsRow base 5 1 v' (n + m) (bv (xs ++ bs)) ∧ w.grownBy w' v.ownBlock := by
  obtain ⟨i0, hi, hz0, hz1, hz2⟩ := info_parts info_u8
  subst hm
  cases A with
  | none =>
    obtain rfl := hA rfl
    have h0 : bs = [] := by
      cases bs with
      | nil => rfl
      | cons b bs => obtain ⟨a, ha, _⟩ := hr 0 (by simp); cases ha
    subst h0
    exact ⟨v, w, run_append_owned_none (P := Tryd.prog) (w := w) base 42 _ 5 i0 1 Tryd.underlying42 hi v n _ hown, by simpa using hown, ⟨rfl, rfl, rfl, Nat.le_refl _, fun _ _ _ => rfl⟩⟩
  | some ad =>
    obtain ⟨v', w', h1, h2, h3, -⟩ := run_append_own (P := Tryd.prog) w base 42 42 5 i0 (.int .u8 0) 1 1 Tryd.underlying42 hi hz0 hz1 hz2 rfl (by decide) v n (bv xs) hown ad bs.length c (bv bs) (by simp) (fun j u hj => by
      have hj' : j < bs.length := by have := (List.getElem?_eq_some_iff.1 hj).1; simpa using this
      obtain ⟨a', ha', hcell⟩ := hr j hj'
      obtain rfl := Option.some.inj ha'
      rw [bv_get _ _ hj'] at hj
      rw [hcell]; exact hj) (bv_one bs) (by unfold maxLen; omega) (by omega) hbase
    exact ⟨v', w', h1, by rw [bv_append]; exact h2, h3⟩
theorem wp_append_run {o : Oper} {a : Act} {w : World} {K : Act → World → Prop} {Q : Exit → Act → World → Prop} (s x : Operand) (t : TypeId)
    (ho : o.op = .call { callee := .builtin .append, args := #[s, x], argTypes := #[t, t] }) (hty : o.type = t) (v src : Value) (hs : a.eval s = v) (hx : a.eval x = src) (v' : Value) (w' : World)
    (hrun : (Builtin.append_ #[t, t] t #[v, src]).run Tryd.prog w = .ok v' w') (h : K (a.put o.dst v') w') : Oper.wp Tryd.prog o a w K Q := by
  have hr : (Builtin.append_ #[t, t] o.type #[v, src]).run Tryd.prog w = .ok v' w' := by rw [hty]; exact hrun
  unfold Oper.wp execOp
  simp only [ho, resolve, invoke, builtin, Sem.run_bind, Sem.run_pure, Result.andThen_ok, List.map_toArray, List.map_cons, List.map_nil, hs, hx, hr]
  exact h
theorem step_append_run {ops : Array Oper} {o : Oper} {a : Act} {w : World} {K : Act → World → Prop} {Q : Exit → Act → World → Prop} {E : Prop} (hgd : o.guard = none) (s x : Operand) (t : TypeId)
    (ho : o.op = .call { callee := .builtin .append, args := #[s, x], argTypes := #[t, t] }) (hty : o.type = t) (v src : Value) (hs : a.eval s = v) (hx : a.eval x = src) (v' : Value) (w' : World)
    (hrun : (Builtin.append_ #[t, t] t #[v, src]).run Tryd.prog w = .ok v' w') (h : K (a.put o.dst v') w') : if Region.wanted o (yielded ops a.tmps) = true then Oper.wp Tryd.prog o a w K Q else E := by
  rw [if_pos (by simp [Region.wanted, hgd])]
  exact wp_append_run s x t ho hty v src hs hx v' w' hrun h
theorem wpList_append_run {ops : Array Oper} {rest : List Oper} {o : Oper} {a : Act} {w : World} {Q : Exit → Act → World → Prop} (hgd : o.guard = none) (s x : Operand) (t : TypeId)
    (ho : o.op = .call { callee := .builtin .append, args := #[s, x], argTypes := #[t, t] }) (hty : o.type = t) (v src : Value) (hs : a.eval s = v) (hx : a.eval x = src) (v' : Value) (w' : World)
    (hrun : (Builtin.append_ #[t, t] t #[v, src]).run Tryd.prog w = .ok v' w') (h : wpList Tryd.prog ops Q rest (a.put o.dst v') w') : wpList Tryd.prog ops Q (o :: rest) a w :=
  wpList_plain hgd fun K hK => wp_append_run s x t ho hty v src hs hx v' w' hrun (hK _ _ h)
end Go.Proofs.YtkjpfjgaabbggaaDoor
