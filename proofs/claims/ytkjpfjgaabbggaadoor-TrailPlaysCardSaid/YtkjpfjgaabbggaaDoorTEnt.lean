/- What a slice of entries reads as; entries that are owned; laws on worlds. -/
import Derived.Test.YtkjpfjgaabbggaaDoorTPlain
set_option linter.unusedVariables false
set_option linter.unusedSimpArgs false
namespace Go.Proofs.YtkjpfjgaabbggaaDoor
open Go.RowKit

/-- the cells of entries, each with its data's slice -/
def ecells : List Ent → List Value → List Value
  | e :: es, D :: Ds => .int .i64 e.i :: .int .i64 e.t :: .int .i64 e.k :: D :: ecells es Ds
  | _, _ => []
theorem ecells_length : ∀ {es : List Ent} {Ds : List Value}, Ds.length = es.length → (ecells es Ds).length = es.length * 4
  | [], [], _ => rfl
  | e :: es, D :: Ds, h => by
    have := ecells_length (es := es) (Ds := Ds) (by simpa using h)
    simp only [ecells, List.length_cons, this]
    omega
theorem ecells_get : ∀ {es : List Ent} {Ds : List Value}, Ds.length = es.length → ∀ i (h : i < es.length) (h' : i < Ds.length),
    (ecells es Ds)[i * 4]? = some (.int .i64 es[i].i) ∧ (ecells es Ds)[i * 4 + 1]? = some (.int .i64 es[i].t) ∧ (ecells es Ds)[i * 4 + 2]? = some (.int .i64 es[i].k) ∧ (ecells es Ds)[i * 4 + 3]? = some Ds[i]
  | e :: es, D :: Ds, h, 0, _, _ => by simp [ecells]
  | e :: es, D :: Ds, h, i + 1, h1, h2 => by
    have ih := ecells_get (es := es) (Ds := Ds) (by simpa using h) i (by simpa using h1) (by simpa using h2)
    rw [show (i + 1) * 4 = i * 4 + 1 + 1 + 1 + 1 by omega]
    simp only [ecells, List.getElem?_cons_succ, List.getElem_cons_succ]
    exact ih
theorem ecells_append : ∀ {es : List Ent} {Ds : List Value} (fs : List Ent) (Es : List Value), Ds.length = es.length → ecells (es ++ fs) (Ds ++ Es) = ecells es Ds ++ ecells fs Es
  | [], [], _, _, _ => rfl
  | e :: es, D :: Ds, fs, Es, h => by
    simp only [List.cons_append, ecells]
    rw [ecells_append fs Es (by simpa using h)]
theorem ecells_take : ∀ {es : List Ent} {Ds : List Value} (n : Nat), Ds.length = es.length → ecells (es.take n) (Ds.take n) = (ecells es Ds).take (n * 4)
  | [], [], n, _ => by cases n <;> simp [ecells]
  | e :: es, D :: Ds, 0, _ => by simp [ecells]
  | e :: es, D :: Ds, n + 1, h => by
    rw [show (n + 1) * 4 = n * 4 + 1 + 1 + 1 + 1 by omega]
    simp only [List.take_succ_cons, ecells]
    rw [ecells_take n (by simpa using h)]
theorem ecells_drop : ∀ {es : List Ent} {Ds : List Value} (n : Nat), Ds.length = es.length → ecells (es.drop n) (Ds.drop n) = (ecells es Ds).drop (n * 4)
  | [], [], n, _ => by cases n <;> simp [ecells]
  | e :: es, D :: Ds, 0, _ => by simp [ecells]
  | e :: es, D :: Ds, n + 1, h => by
    rw [show (n + 1) * 4 = n * 4 + 1 + 1 + 1 + 1 by omega]
    simp only [List.drop_succ_cons, ecells]
    rw [ecells_drop n (by simpa using h)]
theorem ecells_set : ∀ {es : List Ent} {Ds : List Value} (i : Nat) (D : Value), Ds.length = es.length → (ecells es Ds).set (i * 4 + 3) D = ecells es (Ds.set i D)
  | [], [], i, D, _ => by simp [ecells]
  | e :: es, D' :: Ds, 0, D, _ => by simp [ecells]
  | e :: es, D' :: Ds, i + 1, D, h => by
    rw [show (i + 1) * 4 + 3 = (i * 4 + 3) + 1 + 1 + 1 + 1 by omega]
    simp only [ecells, List.set_cons_succ]
    rw [ecells_set i D (by simpa using h)]
theorem ecells_one : ∀ {es : List Ent} {Ds : List Value}, Ds.length = es.length → (∀ D ∈ Ds, D.oneCell' = true) → ∀ u ∈ ecells es Ds, u.oneCell' = true
  | [], [], _, _, u, hu => by simp [ecells] at hu
  | e :: es, D :: Ds, h, hD, u, hu => by
    simp only [ecells, List.mem_cons] at hu
    rcases hu with rfl | rfl | rfl | rfl | hu
    · rfl
    · rfl
    · rfl
    · exact hD _ (by simp)
    · exact ecells_one (by simpa using h) (fun D hD' => hD D (by simp [hD'])) u hu

/-- A slice value reads as bytes. -/
def RD (w : World) (D : Value) (d : List UInt8) : Prop := ∃ B c, D = .slice B d.length c ∧ RB w B d ∧ d.length ≤ c ∧ d.length ≤ 140737488351232 ∧ (B = none → c = 0)
theorem RD.below {w w' : World} {D : Value} {d : List UInt8} (h : RD w D d) (b : Below w.heap.size w w') : RD w' D d := by
  obtain ⟨B, c, h1, h2, r⟩ := h
  exact ⟨B, c, h1, h2.below b, r⟩
theorem RD.one {w : World} {D : Value} {d : List UInt8} (h : RD w D d) : D.oneCell' = true := by
  obtain ⟨B, c, rfl, _⟩ := h
  rfl
/-- A slice's address reads as entries, each with its data's slice. -/
def RE (w : World) (A : Option Addr) (es : List Ent) (Ds : List Value) : Prop :=
  Ds.length = es.length ∧ (∀ j u, (ecells es Ds)[j]? = some u → ∃ a, A = some a ∧ w.cell? (a.add j) = some u) ∧ ∀ i (h : i < es.length) (h' : i < Ds.length), RD w Ds[i] es[i].d
theorem RE.nil (w : World) (A : Option Addr) : RE w A [] [] := ⟨rfl, fun j u h => by simp [ecells] at h, fun i h => by simp at h⟩
theorem RE.addr {w : World} {A : Option Addr} {es : List Ent} {Ds : List Value} (h : RE w A es Ds) (h0 : 0 < es.length) :
    ∃ b o, A = some ⟨b, o, none⟩ ∧ b < w.heap.size ∧ ∀ j u, (ecells es Ds)[j]? = some u → w.cell? ⟨b, o + j, none⟩ = some u := by
  obtain ⟨h1, h2, _⟩ := h
  obtain ⟨g, _⟩ := ecells_get h1 0 h0 (by omega)
  obtain ⟨⟨b, o, s⟩, rfl, hc⟩ := h2 _ _ g
  have hs : s = none := by
    cases s with
    | none => rfl
    | some x => simp [World.cell?, Addr.add] at hc; split at hc <;> simp_all
  subst hs
  refine ⟨b, o, rfl, ?_, fun j u hj => ?_⟩
  · have := World.block_lt_of_cell? _ _ hc
    simpa [Addr.add] using this
  · obtain ⟨a, ha, hc⟩ := h2 j u hj
    obtain rfl := Option.some.inj ha
    rw [Addr.add_lit] at hc
    exact hc
/-- the four cells of the one at i -/
theorem RE.at {w : World} {b o : Nat} {es : List Ent} {Ds : List Value} (h : RE w (some ⟨b, o, none⟩) es Ds) (i : Nat) (hi : i < es.length) :
    w.cell? ⟨b, o + i * 4, none⟩ = some (.int .i64 es[i].i) ∧ w.cell? ⟨b, o + i * 4 + 1, none⟩ = some (.int .i64 es[i].t) ∧ w.cell? ⟨b, o + i * 4 + 2, none⟩ = some (.int .i64 es[i].k) ∧ w.cell? ⟨b, o + i * 4 + 3, none⟩ = some (Ds[i]'(by rw [h.1]; exact hi)) ∧ RD w (Ds[i]'(by rw [h.1]; exact hi)) es[i].d := by
  obtain ⟨b', o', hA, _, hc⟩ := h.addr (by omega)
  cases hA
  obtain ⟨g0, g1, g2, g3⟩ := ecells_get h.1 i hi (by rw [h.1]; exact hi)
  exact ⟨hc _ _ g0, by rw [Nat.add_assoc]; exact hc _ _ g1, by rw [Nat.add_assoc]; exact hc _ _ g2, by rw [Nat.add_assoc]; exact hc _ _ g3, h.2.2 i hi _⟩
theorem RE.below {w w' : World} {A : Option Addr} {es : List Ent} {Ds : List Value} (h : RE w A es Ds) (b : Below w.heap.size w w') : RE w' A es Ds :=
  ⟨h.1, fun j u hj => by obtain ⟨a, ha, hc⟩ := h.2.1 j u hj; exact ⟨a, ha, below_cell b hc⟩, fun i h1 h2 => (h.2.2 i h1 h2).below b⟩
theorem RE.ones {w : World} {A : Option Addr} {es : List Ent} {Ds : List Value} (h : RE w A es Ds) : ∀ D ∈ Ds, D.oneCell' = true := by
  intro D hD
  obtain ⟨i, hi, rfl⟩ := List.getElem_of_mem hD
  exact (h.2.2 i (by rw [← h.1]; exact hi) hi).one
theorem RE.take {w : World} {A : Option Addr} {es : List Ent} {Ds : List Value} (h : RE w A es Ds) (n : Nat) : RE w A (es.take n) (Ds.take n) := by
  refine ⟨by simp [h.1], fun j u hj => ?_, fun i h1 h2 => ?_⟩
  · rw [ecells_take n h.1] at hj
    refine h.2.1 j u ?_
    have hlt := (List.getElem?_eq_some_iff.1 hj).1
    rw [List.length_take] at hlt
    rw [List.getElem?_take_of_lt (by omega)] at hj
    exact hj
  · simp only [List.getElem_take]
    exact h.2.2 i (by simp at h1; omega) (by simp at h2; omega)
theorem RE.drop {w : World} {b o : Nat} {es : List Ent} {Ds : List Value} (h : RE w (some ⟨b, o, none⟩) es Ds) (n : Nat) : RE w (some ⟨b, o + n * 4, none⟩) (es.drop n) (Ds.drop n) := by
  refine ⟨by simp [h.1], fun j u hj => ?_, fun i h1 h2 => ?_⟩
  · rw [ecells_drop n h.1, List.getElem?_drop] at hj
    obtain ⟨a, ha, hc⟩ := h.2.1 _ _ hj
    cases ha
    rw [Addr.add_lit] at hc
    exact ⟨_, rfl, by rw [Addr.add_lit, Nat.add_assoc]; exact hc⟩
  · simp only [List.getElem_drop]
    exact h.2.2 (n + i) (by simp at h1; omega) (by simp at h2; omega)

/-- bytes that are owned -/
def OD (w : World) (base : Nat) (D : Value) (d : List UInt8) : Prop := w.ownsRow base 5 1 D d.length (bv d) ∧ d.length ≤ 140737488351232
theorem OD.rd {w : World} {base : Nat} {D : Value} {d : List UInt8} (h : OD w base D d) : RD w D d := by
  obtain ⟨A, c, rfl, hc, hA⟩ := own_shape h.1
  exact ⟨A, c, rfl, RB.own h.1, hc, h.2, hA⟩
theorem own_step {w w' : World} {base : Nat} {e : TypeId} {size n : Nat} {v : Value} {xs : List Value} (h : w.ownsRow base e size v n xs) (hb : ∀ k, v.ownBlock = some k → w'.heap[k]? = w.heap[k]?) : w'.ownsRow base e size v n xs := by
  refine ⟨h.1, ?_⟩
  rcases h.2 with h1 | ⟨g, cap, cur, rfl, hg, hh, r⟩
  · exact .inl h1
  · exact .inr ⟨g, cap, cur, rfl, hg, by rw [hb g rfl]; exact hh, r⟩
theorem own_lower {w : World} {base b' : Nat} {e : TypeId} {size n : Nat} {v : Value} {xs : List Value} (h : w.ownsRow base e size v n xs) (hb : b' ≤ base) : w.ownsRow b' e size v n xs := by
  refine ⟨h.1, ?_⟩
  rcases h.2 with h1 | ⟨g, cap, cur, hv, hg, r⟩
  · exact .inl h1
  · exact .inr ⟨g, cap, cur, hv, Nat.le_trans hb hg, r⟩
theorem own_below {w w' : World} {base : Nat} {e : TypeId} {size n : Nat} {v : Value} {xs : List Value} (h : w.ownsRow base e size v n xs) (b : Below w.heap.size w w') : w'.ownsRow base e size v n xs :=
  own_step h fun k hk => b.block k (h.lt k hk).2
/-- rows of two types lie apart -/
theorem row_types {w : World} {b b' : Nat} {e e' : TypeId} {s s' n n' : Nat} {v v' : Value} {xs xs' : List Value} (h : w.ownsRow b e s v n xs) (h' : w.ownsRow b' e' s' v' n' xs') (hne : e ≠ e') : ∀ k, v.ownBlock = some k → v'.ownBlock ≠ some k := by
  intro k hk hk'
  rcases h.2 with ⟨rfl, _⟩ | ⟨g, cap, cur, rfl, _, hg, _⟩
  · simp [Value.ownBlock] at hk
  · rcases h'.2 with ⟨rfl, _⟩ | ⟨g', cap', cur', rfl, _, hg', _⟩
    · simp [Value.ownBlock] at hk'
    · simp [Value.ownBlock] at hk hk'
      subst hk; subst hk'
      rw [hg] at hg'
      injection hg' with hg'
      injection hg' with _ ht
      exact hne ht
/-- entries that are owned: the row and the data -/
def OE (w : World) (base : Nat) (v : Value) (es : List Ent) (Ds : List Value) : Prop :=
  Ds.length = es.length ∧ w.ownsRow base 44 4 v es.length (ecells es Ds) ∧ ∀ i (h : i < es.length) (h' : i < Ds.length), OD w base Ds[i] es[i].d
theorem OE.nil (w : World) (base : Nat) : OE w base (.slice none 0 0) [] [] := ⟨rfl, World.ownsRow_nil _ _ _ _, fun i h => by simp at h⟩
theorem OE.re {w : World} {base : Nat} {v : Value} {es : List Ent} {Ds : List Value} (h : OE w base v es Ds) : ∃ A c, v = .slice A es.length c ∧ RE w A es Ds ∧ es.length ≤ c ∧ c ≤ maxLen ∧ (A = none → c = 0) := by
  obtain ⟨h1, h2, h3⟩ := h
  rcases h2.2 with ⟨rfl, h0⟩ | ⟨g, cap, cur, rfl, hg, hh, r1, r2, r3, r4⟩
  · have : es = [] := List.eq_nil_of_length_eq_zero h0
    subst this
    obtain rfl : Ds = [] := List.eq_nil_of_length_eq_zero (by simpa using h1)
    exact ⟨none, 0, rfl, RE.nil _ _, by simp, by unfold maxLen; omega, fun _ => rfl⟩
  · refine ⟨_, cap, rfl, ⟨h1, fun j u hj => ⟨_, rfl, ?_⟩, fun i a b => (h3 i a b).rd⟩, r1, r2, fun h => by cases h⟩
    rw [Addr.add_lit]
    have hl := (List.getElem?_eq_some_iff.1 hj).1
    rw [ecells_length h1] at hl
    rw [← r4, List.getElem?_take_of_lt hl] at hj
    simp only [World.cell?, hh, Option.isSome_none, Bool.false_eq_true, ↓reduceIte, Nat.zero_add]
    simpa using hj
theorem OE.step {w w' : World} {base : Nat} {v : Value} {es : List Ent} {Ds : List Value} (h : OE w base v es Ds) (hb : ∀ k, v.ownBlock = some k → w'.heap[k]? = w.heap[k]?)
    (hd : ∀ D ∈ Ds, ∀ k, D.ownBlock = some k → w'.heap[k]? = w.heap[k]?) : OE w' base v es Ds :=
  ⟨h.1, own_step h.2.1 hb, fun i h1 h2 => ⟨own_step (h.2.2 i h1 h2).1 (hd _ (List.getElem_mem _)), (h.2.2 i h1 h2).2⟩⟩
theorem OE.lower {w : World} {base b' : Nat} {v : Value} {es : List Ent} {Ds : List Value} (h : OE w base v es Ds) (hb : b' ≤ base) : OE w b' v es Ds :=
  ⟨h.1, own_lower h.2.1 hb, fun i h1 h2 => ⟨own_lower (h.2.2 i h1 h2).1 hb, (h.2.2 i h1 h2).2⟩⟩
theorem OE.dlt {w : World} {base : Nat} {v : Value} {es : List Ent} {Ds : List Value} (h : OE w base v es Ds) : ∀ D ∈ Ds, ∀ k, D.ownBlock = some k → base ≤ k ∧ k < w.heap.size := by
  intro D hD k hk
  obtain ⟨i, hi, rfl⟩ := List.getElem_of_mem hD
  exact (h.2.2 i (by rw [← h.1]; exact hi) hi).1.lt k hk
theorem OE.below {w w' : World} {base : Nat} {v : Value} {es : List Ent} {Ds : List Value} (h : OE w base v es Ds) (b : Below w.heap.size w w') : OE w' base v es Ds :=
  h.step (fun k hk => b.block k (h.2.1.lt k hk).2) (fun D hD k hk => b.block k (h.dlt D hD k hk).2)
/-- data's blocks and the row's are others -/
theorem OE.apart {w : World} {base : Nat} {v : Value} {es : List Ent} {Ds : List Value} (h : OE w base v es Ds) : ∀ D ∈ Ds, ∀ k, D.ownBlock = some k → v.ownBlock ≠ some k := by
  intro D hD k hk hv
  obtain ⟨i, hi, rfl⟩ := List.getElem_of_mem hD
  have o := (h.2.2 i (by rw [← h.1]; exact hi) hi).1
  rcases o.2 with ⟨e, _⟩ | ⟨g, cap, cur, e, _, hg, _⟩
  · rw [e] at hk; simp [Value.ownBlock] at hk
  · rw [e] at hk
    rcases h.2.1.2 with ⟨e', _⟩ | ⟨g', cap', cur', e', _, hg', _⟩
    · rw [e'] at hv; simp [Value.ownBlock] at hv
    · rw [e'] at hv
      simp [Value.ownBlock] at hk hv
      subst hk; subst hv
      rw [hg] at hg'
      injection hg' with hg'
      injection hg' with _ ht
      exact absurd ht (by decide)
end Go.Proofs.YtkjpfjgaabbggaaDoor
