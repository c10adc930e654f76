/- Maps keyed by int, as rising lists of keys and values, whatever the values. -/
import Derived.Test.YtbdokphemdkhmaaDoorBase
import Derived.Maps.OwnSet
import Derived.Maps.RangeWalk
import Derived.Maps.Ext
set_option linter.unusedVariables false
set_option linter.unusedSimpArgs false
namespace Go.Proofs.YtbdokphemdkhmaaDoor
open Go.RowKit

abbrev IVs := List (Int × Value)
/-- a value, as it is -/
def anyE (v : Value) : Option (DataW Value × List MemPlace) := some (.held v, [])
def kE (p : Int × Value) : Lit × DataW Value := (.int .i64 p.1, .held p.2)
def kD (es : IVs) : DataW Value := .map (es.map kE)
def look (x : Int) (es : IVs) : Option Value := (es.find? fun p => p.1 == x).map (·.2)
def insI (x : Int) (v : Value) : IVs → IVs
  | [] => [(x, v)]
  | y :: r => if x < y.1 then (x, v) :: y :: r else y :: insI x v r
def delI (x : Int) (es : IVs) : IVs := es.filter fun p => !(p.1 == x)
def putI (x : Int) (v : Value) (es : IVs) : IVs := insI x v (delI x es)
def risI (es : IVs) : Prop := es.Pairwise fun p q => p.1 < q.1

theorem same_int (a b : Int) : (Lit.int .i64 a).sameKey (.int .i64 b) = (a == b) := by
  by_cases h : a = b <;> simp [Lit.sameKey, h]
theorem insert_kE (x : Int) (v : Value) : ∀ es : IVs, DataW.insert (kE (x, v)) (es.map kE) = (insI x v es).map kE
  | [] => rfl
  | y :: r => by
    by_cases h : x < y.1
    · simp [DataW.insert, insI, kE, Lit.before, h]
    · have := insert_kE x v r
      simp only [List.map_cons, DataW.insert, insI, kE, Lit.before, h, decide_false, Bool.false_eq_true, ↓reduceIte]
      simp only [kE] at this
      rw [this]
theorem filter_kE (x : Int) (es : IVs) : (es.map kE).filter (fun p => !p.1.sameKey (.int .i64 x)) = (delI x es).map kE := by
  rw [List.filter_map]
  congr 1
  apply List.filter_congr
  intro p _
  simp [kE, same_int]
theorem kD_put (x : Int) (v : Value) (es : IVs) : (kD es).put (.int .i64 x) (.held v) = kD (putI x v es) := by
  unfold kD putI
  rw [DataW.put_eq, ← insert_kE, ← filter_kE]
  rfl
theorem kD_del (x : Int) (es : IVs) : (kD es).del (.int .i64 x) = kD (delI x es) := by
  unfold kD
  rw [DataW.del_eq, ← filter_kE]
  rfl
theorem find_kE (x : Int) : ∀ es : IVs, (es.map kE).find? (fun p => p.1.sameKey (.int .i64 x)) = (es.find? fun p => p.1 == x).map kE
  | [] => rfl
  | y :: r => by
    have ih := find_kE x r
    simp only [List.map_cons, List.find?_cons, kE, same_int]
    cases h : y.1 == x
    · simpa [kE] using ih
    · simp [kE]
theorem kD_at (x : Int) (z : Value) (es : IVs) : (kD es).atKey (.int .i64 x) (.held z) = .held ((look x es).getD z) := by
  unfold kD DataW.atKey look
  simp only [find_kE]
  cases es.find? (fun p => p.1 == x) <;> rfl
theorem kD_has (x : Int) (es : IVs) : Maps.has (kD es) (.int .i64 x) = (look x es).isSome := by
  unfold kD look
  rw [Maps.has_eq]
  induction es with
  | nil => rfl
  | cons y r ih =>
    simp only [List.map_cons, List.any_cons, List.find?_cons, kE, same_int]
    cases h : y.1 == x
    · simpa [kE] using ih
    · simp
theorem kD_size (es : IVs) : Maps.size (kD es) = es.length := by unfold kD; rw [Maps.size_eq]; simp

theorem risI_del {es : IVs} (h : risI es) (x : Int) : risI (delI x es) := h.filter _
theorem mem_insI {x : Int} {v : Value} {p : Int × Value} : ∀ {es : IVs}, p ∈ insI x v es ↔ p = (x, v) ∨ p ∈ es
  | [] => by simp [insI]
  | y :: r => by
    simp only [insI]
    split
    · simp
    · simp only [List.mem_cons, mem_insI (es := r)]
      constructor
      · rintro (h | h | h)
        · exact .inr (.inl h)
        · exact .inl h
        · exact .inr (.inr h)
      · rintro (h | h | h)
        · exact .inr (.inl h)
        · exact .inl h
        · exact .inr (.inr h)
theorem mem_delI {x : Int} {p : Int × Value} {es : IVs} : p ∈ delI x es ↔ p ∈ es ∧ p.1 ≠ x := by simp [delI]
theorem risI_ins {x : Int} {v : Value} : ∀ {es : IVs}, risI es → (∀ p ∈ es, p.1 ≠ x) → risI (insI x v es)
  | [], _, _ => by simp [insI, risI]
  | y :: r, h, hx => by
    obtain ⟨h1, h2⟩ := List.pairwise_cons.1 h
    simp only [insI]
    split
    · rename_i hlt
      refine List.pairwise_cons.2 ⟨fun q hq => ?_, h⟩
      rcases List.mem_cons.1 hq with rfl | hq
      · exact hlt
      · have := h1 q hq; simp only; omega
    · rename_i hlt
      have hy := hx y (by simp)
      refine List.pairwise_cons.2 ⟨fun q hq => ?_, risI_ins h2 fun p hp => hx p (by simp [hp])⟩
      rcases mem_insI.1 hq with rfl | hq
      · simp only; omega
      · exact h1 q hq
theorem risI_put {es : IVs} (h : risI es) (x : Int) (v : Value) : risI (putI x v es) := risI_ins (risI_del h x) fun p hp => (mem_delI.1 hp).2
theorem length_insI (x : Int) (v : Value) : ∀ es : IVs, (insI x v es).length = es.length + 1
  | [] => rfl
  | y :: r => by
    simp only [insI]
    split
    · rfl
    · simp [length_insI x v r]
theorem length_delI_le (x : Int) (es : IVs) : (delI x es).length ≤ es.length := List.length_filter_le _ _
theorem length_putI_le (x : Int) (v : Value) (es : IVs) : (putI x v es).length ≤ es.length + 1 := by
  unfold putI; rw [length_insI]; have := length_delI_le x es; omega
theorem look_some {x : Int} {v : Value} {es : IVs} (h : look x es = some v) : (x, v) ∈ es := by
  unfold look at h
  cases hf : es.find? (fun p => p.1 == x) with
  | none => rw [hf] at h; simp at h
  | some p =>
    rw [hf] at h
    have h1 := List.mem_of_find?_eq_some hf
    have h2 := List.find?_some hf
    simp at h h2
    obtain ⟨a, c⟩ := p
    simp at h h2
    subst h; subst h2
    exact h1
theorem look_none {x : Int} {es : IVs} (h : look x es = none) : ∀ p ∈ es, p.1 ≠ x := by
  intro p hp e
  unfold look at h
  cases hf : es.find? (fun p => p.1 == x) with
  | some q => rw [hf] at h; simp at h
  | none =>
    have := List.find?_eq_none.1 hf p hp
    simp at this
    exact this e
theorem look_of_mem {x : Int} {v : Value} {es : IVs} (hr : risI es) (h : (x, v) ∈ es) : look x es = some v := by
  induction es with
  | nil => simp at h
  | cons y r ih =>
    obtain ⟨h1, h2⟩ := List.pairwise_cons.1 hr
    rcases List.mem_cons.1 h with e | h
    · subst e; simp [look]
    · have := h1 _ h
      have ih := ih h2 h
      have hne : (y.1 == x) = false := by simp only at this; simp; omega
      unfold look at ih ⊢
      rw [List.find?_cons, hne]
      exact ih
theorem delI_none {x : Int} {es : IVs} (h : look x es = none) : delI x es = es := by
  unfold delI
  rw [List.filter_eq_self]
  intro p hp
  have := look_none h p hp
  simp [this]
theorem length_putI_new {x : Int} {v : Value} {es : IVs} (h : look x es = none) : (putI x v es).length = es.length + 1 := by
  unfold putI; rw [length_insI, delI_none h]
theorem length_delI {x : Int} {v : Value} : ∀ {es : IVs}, risI es → look x es = some v → (delI x es).length + 1 = es.length
  | [], _, h => by simp [look] at h
  | y :: r, hr, h => by
    obtain ⟨h1, h2⟩ := List.pairwise_cons.1 hr
    by_cases hy : y.1 = x
    · have : delI x (y :: r) = r := by
        unfold delI
        rw [List.filter_cons]
        simp only [hy, beq_self_eq_true, Bool.not_true, Bool.false_eq_true, ↓reduceIte]
        rw [List.filter_eq_self]
        intro p hp
        have := h1 p hp
        simp; omega
      rw [this]; rfl
    · have hb : (y.1 == x) = false := by simp [hy]
      have h' : look x r = some v := by unfold look at h ⊢; rw [List.find?_cons, hb] at h; exact h
      have ih := length_delI h2 h'
      unfold delI at ih ⊢
      rw [List.filter_cons]
      simp only [hb, Bool.not_false, ↓reduceIte, List.length_cons]
      omega
theorem length_putI_old {x : Int} {v u : Value} {es : IVs} (hr : risI es) (h : look x es = some u) : (putI x v es).length = es.length := by
  unfold putI; rw [length_insI, length_delI hr h]

/-- two rising lists of the same members are one -/
theorem risI_ext : ∀ {l m : IVs}, risI l → risI m → (∀ p, p ∈ l ↔ p ∈ m) → l = m
  | [], [], _, _, _ => rfl
  | [], b :: s, _, _, h => by have := (h b).2 (by simp); simp at this
  | a :: r, [], _, _, h => by have := (h a).1 (by simp); simp at this
  | a :: r, b :: s, h1, h2, h => by
    obtain ⟨a1, a2⟩ := List.pairwise_cons.1 h1
    obtain ⟨b1, b2⟩ := List.pairwise_cons.1 h2
    have hab : a = b := by
      rcases List.mem_cons.1 ((h a).1 (by simp)) with e | ha
      · exact e
      · rcases List.mem_cons.1 ((h b).2 (by simp)) with e | hb
        · exact e.symm
        · have := a1 b hb; have := b1 a ha; omega
    subst hab
    rw [risI_ext a2 b2 fun p => ⟨fun hp => by
      rcases List.mem_cons.1 ((h p).1 (by simp [hp])) with e | hp'
      · have := a1 p hp; rw [e] at this; omega
      · exact hp', fun hp => by
      rcases List.mem_cons.1 ((h p).2 (by simp [hp])) with e | hp'
      · have := b1 p hp; rw [e] at this; omega
      · exact hp'⟩]

/-- a map's block -/
def IM (w : World) (b : Nat) (es : IVs) : Prop := risI es ∧ w.ownsMap Tryd.prog 3 anyE b es.length (kD es)
theorem lawI : Maps.Keyed Tryd.prog 3 := Maps.int_keyed Tryd.underlying3
theorem keyI {x : Int} (h : (Lit.int .i64 x).wf = true) : keyOf Tryd.prog 3 (.int .i64 x) = some (.int .i64 x) := Maps.keyOf_int_mk Tryd.underlying3 h
theorem IM.lt {w : World} {b : Nat} {es : IVs} (h : IM w b es) : b < w.heap.size := h.2.lt
theorem IM.step {w w' : World} {b : Nat} {es : IVs} (h : IM w b es) (hb : w'.heap[b]? = w.heap[b]?) : IM w' b es := by
  obtain ⟨h1, es', clock, h2, h3⟩ := h
  exact ⟨h1, es', clock, hb.trans h2, h3⟩
theorem IM.below {w w' : World} {b : Nat} {es : IVs} (h : IM w b es) (hb : Below w.heap.size w w') : IM w' b es := h.step (hb.block b h.lt)
theorem IM.made (w : World) : IM (w.alloc (.map #[] 0)) w.heap.size [] := ⟨List.Pairwise.nil, World.ownsMap_made w _ _ _⟩
theorem ownsMap_exact {w : World} {b n : Nat} {D : DataW Value} (h : w.ownsMap Tryd.prog 3 anyE b n D) : w.ownsMap Tryd.prog 3 anyE b (Maps.size D) D := by
  obtain ⟨es, clock, hb, F, hs, rfl⟩ := h
  exact ⟨es, clock, hb, F, by simp [Maps.size, length_sorted], rfl⟩
theorem IM.look_ok {w : World} {b : Nat} {es : IVs} (h : IM w b es) {t e : TypeId} (ht : Tryd.prog.underlying t = some (.map 3 e)) {z : Value} (hz : (zeroValue e).run Tryd.prog w = .ok z w) {x : Int} (hx : (Lit.int .i64 x).wf = true) :
    (Instr.lookup t (.map (some b)) (.int .i64 x) true).run Tryd.prog w = .ok (.tuple #[(look x es).getD z, .bool (look x es).isSome]) w := by
  obtain ⟨v, ps, hrun, hv⟩ := h.2.look_ok lawI ht hz (zd := .held z) (zp := []) rfl (keyI hx)
  rw [hrun, kD_has]
  rw [kD_at] at hv
  simp only [anyE, Option.some.injEq, Prod.mk.injEq, DataW.held.injEq] at hv
  rw [hv.1]
theorem IM.look {w : World} {b : Nat} {es : IVs} (h : IM w b es) {t e : TypeId} (ht : Tryd.prog.underlying t = some (.map 3 e)) {z : Value} (hz : (zeroValue e).run Tryd.prog w = .ok z w) {x : Int} (hx : (Lit.int .i64 x).wf = true) :
    (Instr.lookup t (.map (some b)) (.int .i64 x) false).run Tryd.prog w = .ok ((look x es).getD z) w := by
  obtain ⟨v, ps, hrun, hv⟩ := h.2.lookup lawI ht hz (zd := .held z) (zp := []) rfl (keyI hx)
  rw [hrun]
  rw [kD_at] at hv
  simp only [anyE, Option.some.injEq, Prod.mk.injEq, DataW.held.injEq] at hv
  rw [hv.1]
theorem IM.len {w : World} {b : Nat} {es : IVs} (h : IM w b es) {t e : TypeId} (ht : Tryd.prog.underlying t = some (.map 3 e)) (ty : TypeId) : (Builtin.len_ #[t] ty #[.map (some b)]).run Tryd.prog w = .ok (.int .i64 es.length) w := by
  rw [h.2.len ht ty, kD_size]
theorem IM.store {w : World} {b : Nat} {es : IVs} (h : IM w b es) {t e : TypeId} (ht : Tryd.prog.underlying t = some (.map 3 e)) (hn : es.length < maxLen) {x : Int} (hx : (Lit.int .i64 x).wf = true) (v : Value) :
    ∃ w', (Instr.mapUpdate t (.map (some b)) (.int .i64 x) v).run Tryd.prog w = .ok () w' ∧ IM w' b (putI x v es) ∧ w.grownBy w' (some b) ∧ w'.heap.size = w.heap.size := by
  obtain ⟨w', hrun, h1, h2⟩ := h.2.store lawI ht hn (keyI hx) (val := v) (d := .held v) (ps := []) rfl
  refine ⟨w', hrun, ⟨risI_put h.1 _ _, ?_⟩, h2.grown, ?_⟩
  · rw [kD_put] at h1
    have := ownsMap_exact h1
    rwa [kD_size] at this
  · obtain ⟨_, _, _, _, _, rfl⟩ := h2
    simp [ChangeMaps.setBlock]
theorem IM.drop {w : World} {b : Nat} {es : IVs} (h : IM w b es) {t e : TypeId} (ht : Tryd.prog.underlying t = some (.map 3 e)) {x : Int} (hx : (Lit.int .i64 x).wf = true) (ty : TypeId) :
    ∃ w', (Builtin.delete_ #[t, 3] ty #[.map (some b), .int .i64 x]).run Tryd.prog w = .ok (.tuple #[]) w' ∧ IM w' b (delI x es) ∧ w.grownBy w' (some b) ∧ w'.heap.size = w.heap.size := by
  obtain ⟨w', hrun, h1, h2⟩ := h.2.drop lawI ht (keyI hx) ty
  refine ⟨w', hrun, ⟨risI_del h.1 _, ?_⟩, h2.grown, ?_⟩
  · rw [kD_del] at h1
    have := ownsMap_exact h1
    rwa [kD_size] at this
  · obtain ⟨_, _, _, _, _, rfl⟩ := h2
    simp [ChangeMaps.setBlock]
end Go.Proofs.YtbdokphemdkhmaaDoor
