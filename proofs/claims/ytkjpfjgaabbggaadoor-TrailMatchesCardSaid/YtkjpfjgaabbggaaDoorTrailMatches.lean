/- muntinlaw21.TrailMatches: the walk. -/
import Derived.Test.YtkjpfjgaabbggaaDoorTState
import Derived.Test.YtkjpfjgaabbggaaDoorTLog
import Derived.Test.YtkjpfjgaabbggaaDoorQInts
import Derived.Test.YtkjpfjgaabbggaaDoorLow
import Derived.Deep.LoopGhost
import Derived.Deep.CutBlock
import Derived.Deep.DeepCutAuto
set_option linter.unusedVariables false
set_option linter.unusedSimpArgs false
namespace Go.Proofs.YtkjpfjgaabbggaaDoor
open Go.RowKit

theorem below_draws' {B : Nat} {a w : World} (h : Below B a w) (n : Nat) : Below B a (w.drewN n) := ⟨h.os, h.tape, h.output, h.size, h.block⟩
theorem new0_any (w : World) : Calls Tryd.prog 9 #[.int .i64 0, .int .i64 0, .slice none 0 0] w fun e w' => ∃ p v Ds', e = .returned (.tuple #[.pointer (some ⟨p, 0, none⟩), .nilIface]) ∧ TO w' w.heap.size p 0 0 v [] Ds' ∧ Below w.heap.size w w' :=
  new_ok none 0 0 [] [] 0 0 w (RE.nil _ _) rfl (by omega) (by omega) (fun _ => rfl) (by decide)
theorem log_at (x T : Nat) (X Y : Int) (w : World) (hX : X = x) (hY : Y = T) (hx : x ≤ 200) (hT : T ≤ 200) :
    Calls Tryd.prog 17 #[.int .i64 X, .int .i64 Y] w fun e w' => ∃ D, e = .returned (.agg #[.int .i64 X, .int .i64 Y, .int .i64 0, D]) ∧ OD w' w.heap.size D (logE x T).d ∧ Below w.heap.size w w' := by
  subst hX hY
  exact log_any x T w hx hT
theorem info_ents : (Tryd.prog.info? 22).map (fun i => (i.zero, i.size, i.bytes)) = some (some (.slice none 0 0), 1, 24) := by kernel_rfl

/-- logs in memory: each one's row, owned -/
def LG (w : World) (base : Nat) (vals : List Value) (ls : List (List Ent)) : Prop :=
  vals.length = ls.length ∧ ∀ j (h : j < vals.length) (h' : j < ls.length), ∃ Ds, OE w base vals[j] ls[j] Ds
theorem LG.below {w w' : World} {base : Nat} {vals : List Value} {ls : List (List Ent)} (h : LG w base vals ls) (b : Below w.heap.size w w') : LG w' base vals ls :=
  ⟨h.1, fun j h1 h2 => by obtain ⟨Ds, o⟩ := h.2 j h1 h2; exact ⟨Ds, o.below b⟩⟩

/-- a row of another type grew -/
theorem own_grown {w w' : World} {b b' : Nat} {e e' : TypeId} {s s' n n' : Nat} {v v' : Value} {xs xs' : List Value} {o : Obj} (h : w.ownsRow b e s v n xs) (h' : w.ownsRow b' e' s' v' n' xs') (hne : e ≠ e') (g : (w.alloc o).grownBy w' v'.ownBlock) : w'.ownsRow b e s v n xs :=
  own_step h fun k hk => by
    have hlt := (h.lt k hk).2
    rw [g.block k (by simp; omega) (fun e0 => row_types h h' hne k hk e0.symm), (below_alloc w o).block k hlt]
theorem OE.grownRow {w w' : World} {base b' s' n' : Nat} {v v' : Value} {es : List Ent} {Ds xs' : List Value} {o : Obj} (h : OE w base v es Ds) (h' : w.ownsRow b' 22 s' v' n' xs') (g : (w.alloc o).grownBy w' v'.ownBlock) : OE w' base v es Ds :=
  ⟨h.1, own_grown h.2.1 h' (by decide) g, fun i h1 h2 => ⟨own_grown (h.2.2 i h1 h2).1 h' (by decide) g, (h.2.2 i h1 h2).2⟩⟩
theorem LG.grownRow {w w' : World} {base b' s' n' : Nat} {v' : Value} {vals xs' : List Value} {ls : List (List Ent)} {o : Obj} (h : LG w base vals ls) (h' : w.ownsRow b' 22 s' v' n' xs') (g : (w.alloc o).grownBy w' v'.ownBlock) : LG w' base vals ls :=
  ⟨h.1, fun j h1 h2 => by obtain ⟨Ds, x⟩ := h.2 j h1 h2; exact ⟨Ds, x.grownRow h' g⟩⟩
theorem LG.add {w : World} {base : Nat} {vals : List Value} {ls : List (List Ent)} {v : Value} {es : List Ent} {Ds : List Value} (h : LG w base vals ls) (o : OE w base v es Ds) : LG w base (vals ++ [v]) (ls ++ [es]) := by
  refine ⟨by simp [h.1], fun j h1 h2 => ?_⟩
  by_cases hj : j < vals.length
  · rw [List.getElem_append_left hj, List.getElem_append_left (by rw [← h.1]; exact hj)]
    exact h.2 j hj _
  · have h3 : j = vals.length := by simp at h1; omega
    subst h3
    rw [List.getElem_append_right (Nat.le_refl _), List.getElem_append_right (by rw [h.1]; exact Nat.le_refl _)]
    refine ⟨Ds, ?_⟩
    simp only [h.1, Nat.sub_self, List.getElem_cons_zero]
    exact o
/-- data of entries, each owned -/
def DA (w : World) (base : Nat) (es : List Ent) (Ds : List Value) : Prop := Ds.length = es.length ∧ ∀ i (h : i < es.length) (h' : i < Ds.length), OD w base Ds[i] es[i].d
theorem DA.below {w w' : World} {base : Nat} {es : List Ent} {Ds : List Value} (h : DA w base es Ds) (b : Below w.heap.size w w') : DA w' base es Ds :=
  ⟨h.1, fun i h1 h2 => ⟨own_below (h.2 i h1 h2).1 b, (h.2 i h1 h2).2⟩⟩
theorem DA.grownRow {w w' : World} {base b' s' n' : Nat} {v' : Value} {es : List Ent} {Ds xs' : List Value} {o : Obj} (h : DA w base es Ds) (h' : w.ownsRow b' 44 s' v' n' xs') (g : (w.alloc o).grownBy w' v'.ownBlock) : DA w' base es Ds :=
  ⟨h.1, fun i h1 h2 => ⟨own_grown (h.2 i h1 h2).1 h' (by decide) g, (h.2 i h1 h2).2⟩⟩
theorem DA.add {w : World} {base : Nat} {es : List Ent} {Ds : List Value} {e : Ent} {D : Value} (h : DA w base es Ds) (o : OD w base D e.d) : DA w base (es ++ [e]) (Ds ++ [D]) := by
  refine ⟨by simp [h.1], fun j h1 h2 => ?_⟩
  by_cases hj : j < es.length
  · rw [List.getElem_append_left hj, List.getElem_append_left (by rw [h.1]; exact hj)]
    exact h.2 j hj _
  · have h3 : j = es.length := by simp at h1; omega
    subst h3
    rw [List.getElem_append_right (Nat.le_refl _), List.getElem_append_right (by rw [h.1]; exact Nat.le_refl _)]
    simp only [h.1, Nat.sub_self, List.getElem_cons_zero]
    exact o
theorem DA.take {w : World} {base : Nat} {es : List Ent} {Ds : List Value} (h : DA w base es Ds) (k : Nat) : DA w base (es.take k) (Ds.take k) :=
  ⟨by simp [h.1], fun j h1 h2 => by simp only [List.getElem_take]; exact h.2 j (by simp at h1; omega) (by simp at h2; omega)⟩
theorem OE.da {w : World} {base : Nat} {v : Value} {es : List Ent} {Ds : List Value} (h : OE w base v es Ds) : DA w base es Ds := ⟨h.1, h.2.2⟩
theorem DA.lower {w : World} {base b' : Nat} {es : List Ent} {Ds : List Value} (h : DA w base es Ds) (hb : b' ≤ base) : DA w b' es Ds := ⟨h.1, fun i h1 h2 => ⟨own_lower (h.2 i h1 h2).1 hb, (h.2 i h1 h2).2⟩⟩
/-- 'append' of entries to entries of the call's own -/
theorem wpList_append_ents {ops : Array Oper} {rest : List Oper} {o : Oper} {a : Act} {Q : Exit → Act → World → Prop} {w : World} (hgd : o.guard = none) (s x : Operand)
    (ho : o.op = .call { callee := .builtin .append, args := #[s, x], argTypes := #[22, 22] })
    (base : Nat) (v : Value) (n : Nat) (xs : List Value) (es : List Ent) (Ds : List Value) (m c : Nat) (A : Option Addr) (hs : a.eval s = v) (hx : a.eval x = .slice A m c)
    (hown : w.ownsRow base 44 4 v n xs) (hr : RE w A es Ds) (hm : es.length = m) (hA : A = none → c = 0) (hlen : n + m ≤ 1000000000000) (hbase : base ≤ w.heap.size)
    (h : ∀ v' w', w'.ownsRow base 44 4 v' (n + m) (xs ++ ecells es Ds) → w.grownBy w' v.ownBlock → wpList Tryd.prog ops Q rest (a.put o.dst v') w') : wpList Tryd.prog ops Q (o :: rest) a w := by
  obtain ⟨i0, hi, hz0, hz1, hz2⟩ := info_parts info_entry
  subst hm
  cases A with
  | none =>
    obtain rfl := hA rfl
    have h0 : es = [] := by
      cases es with
      | nil => rfl
      | cons e es =>
        have h1 := hr.1
        cases Ds with
        | nil => simp at h1
        | cons D Ds => obtain ⟨a, ha, _⟩ := hr.2.1 0 (.int .i64 e.i) rfl; cases ha
    subst h0
    refine wpList_append_own_none hgd s x 22 ho base 44 i0 4 Tryd.underlying22 hi v n xs hs hown hx (h v w ?_ ⟨rfl, rfl, rfl, Nat.le_refl _, fun _ _ _ => rfl⟩)
    simpa [ecells] using hown
  | some ad =>
    exact wpList_append_own w hgd s x 22 ho base 44 i0 _ 4 48 Tryd.underlying22 hi hz0 hz1 hz2 rfl (by decide) v n xs hs hown ad es.length c (ecells es Ds) hx (ecells_length hr.1) hr.news (ecells_one hr.1 hr.ones) (by unfold maxLen; omega) (by omega) hbase fun v' w' h1 h2 _ => h v' w' h1 h2
/-- 'append' of one entry -/
theorem wpList_append_ent {ops : Array Oper} {rest : List Oper} {o : Oper} {a : Act} {Q : Exit → Act → World → Prop} (w : World) (hgd : o.guard = none) (s x : Operand)
    (ho : o.op = .call { callee := .builtin .append, args := #[s, x], argTypes := #[22, 22] })
    (base : Nat) (v : Value) (n : Nat) (xs : List Value) (hs : a.eval s = v) (hown : w.ownsRow base 44 4 v n xs) (p q r : Int) (D : Value) (hD : D.oneCell' = true) (hx : a.eval x = .slice (some ⟨w.heap.size, 0, none⟩) 1 1)
    (hn : n ≤ 1000000000000) (hbase : base ≤ w.heap.size)
    (h : ∀ v' w', w'.ownsRow base 44 4 v' (n + 1) (xs ++ [.int .i64 p, .int .i64 q, .int .i64 r, D]) → (w.alloc (.cells #[.int .i64 p, .int .i64 q, .int .i64 r, D] 44)).grownBy w' v.ownBlock → wpList Tryd.prog ops Q rest (a.put o.dst v') w') :
    wpList Tryd.prog ops Q (o :: rest) a (w.alloc (.cells #[.int .i64 p, .int .i64 q, .int .i64 r, D] 44)) := by
  obtain ⟨i0, hi, hz0, hz1, hz2⟩ := info_parts info_entry
  exact wpList_append_own _ hgd s x 22 ho base 44 i0 _ 4 48 Tryd.underlying22 hi hz0 hz1 hz2 rfl (by decide) v n xs hs (hown.alloc _) ⟨w.heap.size, 0, none⟩ 1 1 [.int .i64 p, .int .i64 q, .int .i64 r, D] hx rfl
    (World.news_of_block (cs := #[.int .i64 p, .int .i64 q, .int .i64 r, D]) (t := 44) (fr := (0, 0)) (heap_alloc_new w _)) (by simp [Value.oneCell'] at hD ⊢; exact hD) (by unfold maxLen; omega) (by omega) (by simp; omega) fun v' w' h1 h2 _ => h v' w' h1 h2

/-- two trails, their pointers' row, what has stayed -/
structure Mz (ls : List (List Ent)) (b0 pa pb H : Nat) (W w : World) : Prop where
  s1 : StT ls b0 pa w
  s2 : StT ls b0 pb w
  f : Frm (fun k => k = pa ∨ k = pb) W w
  c0 : w.cell? ⟨H, 0, none⟩ = some (.pointer (some ⟨pa, 0, none⟩))
  c1 : w.cell? ⟨H, 1, none⟩ = some (.pointer (some ⟨pb, 0, none⟩))
theorem Mz.below {ls : List (List Ent)} {b0 pa pb H : Nat} {W w w' : World} (h : Mz ls b0 pa pb H W w) (b : Below w.heap.size w w') : Mz ls b0 pa pb H W w' :=
  ⟨h.s1.below b, h.s2.below b, h.f.trans (Frm.of_below b), below_cell b h.c0, below_cell b h.c1⟩
theorem frm_cell {S : Nat → Prop} {w w' : World} (f : Frm S w w') {a : Addr} {v : Value} (h : w.cell? a = some v) (hs : ¬ S a.block) : w'.cell? a = some v := by
  rw [World.cell?_of_block (w := w) (f.block _ (World.block_lt_of_cell? _ _ h) hs)]
  exact h
/-- behind what one of the trails was told -/
theorem Mz.told {ls : List (List Ent)} {b0 pa pb p H : Nat} {W w w' : World} (h : Mz ls b0 pa pb H W w) (hne : pa ≠ pb) (hp : p = pa ∨ p = pb) (hH : pa < H ∧ pb < H) (s : StT ls b0 p w') (g : w.grownBy w' (some p)) : Mz ls b0 pa pb H W w' := by
  have f := frm_of_grown g hp
  have n0 : ∀ i, ¬ ((⟨H, i, none⟩ : Addr).block = pa ∨ (⟨H, i, none⟩ : Addr).block = pb) := fun i e => by simp only at e; omega
  refine ⟨?_, ?_, h.f.trans f, frm_cell f h.c0 (n0 0), frm_cell f h.c1 (n0 1)⟩
  · rcases hp with rfl | rfl
    · exact s
    · exact h.s1.other h.s2 hne g
  · rcases hp with rfl | rfl
    · exact h.s2.other h.s1 (Ne.symm hne) g
    · exact s
theorem LG.frm {w w' : World} {base : Nat} {vals : List Value} {ls : List (List Ent)} {S : Nat → Prop} (h : LG w base vals ls) (f : Frm S w w') (hS : ∀ k, S k → k < base) : LG w' base vals ls :=
  ⟨h.1, fun j h1 h2 => by obtain ⟨Ds, o⟩ := h.2 j h1 h2; exact ⟨Ds, o.frm f hS⟩⟩
theorem own_frm {w w' : World} {base : Nat} {e : TypeId} {size n : Nat} {v : Value} {xs : List Value} {S : Nat → Prop} (h : w.ownsRow base e size v n xs) (f : Frm S w w') (hS : ∀ k, S k → k < base) : w'.ownsRow base e size v n xs :=
  own_step h fun k hk => f.block k (h.lt k hk).2 fun s => by have := hS k s; have := (h.lt k hk).1; omega
theorem StT.base {ls : List (List Ent)} {b0 p : Nat} {w : World} (h : StT ls b0 p w) : b0 ≤ p := by
  obtain ⟨i, t, v, es, Ds, h1, _⟩ := h
  exact h1.1

/-- A slice's address reads as steps: four numbers each. -/
def R4 (w : World) (A : Option Addr) (qs : List (Int × Int × Int × Int)) : Prop :=
  ∀ i (h : i < qs.length), ∃ a, A = some a ∧ w.cell? (a.add (i * 4)) = some (.int .i64 qs[i].1) ∧ w.cell? (a.add (i * 4 + 1)) = some (.int .i64 qs[i].2.1) ∧ w.cell? (a.add (i * 4 + 2)) = some (.int .i64 qs[i].2.2.1) ∧ w.cell? (a.add (i * 4 + 3)) = some (.int .i64 qs[i].2.2.2)
theorem R4.nil (w : World) (A : Option Addr) : R4 w A [] := fun i h => absurd h (by simp)
theorem R4.addr {w : World} {A : Option Addr} {qs : List (Int × Int × Int × Int)} (h : R4 w A qs) (h0 : 0 < qs.length) :
    ∃ b o, A = some ⟨b, o, none⟩ ∧ b < w.heap.size ∧ ∀ i (hi : i < qs.length), w.cell? ⟨b, o + i * 4, none⟩ = some (.int .i64 qs[i].1) ∧ w.cell? ⟨b, o + i * 4 + 1, none⟩ = some (.int .i64 qs[i].2.1) ∧ w.cell? ⟨b, o + i * 4 + 2, none⟩ = some (.int .i64 qs[i].2.2.1) ∧ w.cell? ⟨b, o + i * 4 + 3, none⟩ = some (.int .i64 qs[i].2.2.2) := by
  obtain ⟨⟨b, o, s⟩, rfl, hc, -⟩ := h 0 h0
  have hs : s = none := by
    cases s with
    | none => rfl
    | some x => simp [World.cell?, Addr.add] at hc; split at hc <;> simp_all
  subst hs
  refine ⟨b, o, rfl, ?_, fun i hi => ?_⟩
  · have := World.block_lt_of_cell? _ _ hc
    simpa [Addr.add] using this
  · obtain ⟨a, ha, h1, h2, h3, h4⟩ := h i hi
    obtain rfl := Option.some.inj ha
    rw [Addr.add_lit] at h1 h2 h3 h4
    exact ⟨h1, by rw [Nat.add_assoc]; exact h2, by rw [Nat.add_assoc]; exact h3, by rw [Nat.add_assoc]; exact h4⟩
theorem R4.mk' {w : World} {b o : Nat} {qs : List (Int × Int × Int × Int)} (h : ∀ i (hi : i < qs.length), w.cell? ⟨b, o + i * 4, none⟩ = some (.int .i64 qs[i].1) ∧ w.cell? ⟨b, o + i * 4 + 1, none⟩ = some (.int .i64 qs[i].2.1) ∧ w.cell? ⟨b, o + i * 4 + 2, none⟩ = some (.int .i64 qs[i].2.2.1) ∧ w.cell? ⟨b, o + i * 4 + 3, none⟩ = some (.int .i64 qs[i].2.2.2)) : R4 w (some ⟨b, o, none⟩) qs :=
  fun i hi => ⟨_, rfl, by rw [Addr.add_lit]; exact (h i hi).1, by rw [Addr.add_lit, ← Nat.add_assoc]; exact (h i hi).2.1, by rw [Addr.add_lit, ← Nat.add_assoc]; exact (h i hi).2.2.1, by rw [Addr.add_lit, ← Nat.add_assoc]; exact (h i hi).2.2.2⟩
theorem R4.below {w w' : World} {A : Option Addr} {qs : List (Int × Int × Int × Int)} (h : R4 w A qs) (hb : Below w.heap.size w w') : R4 w' A qs := by
  intro i hi
  obtain ⟨a, ha, h1, h2, h3, h4⟩ := h i hi
  exact ⟨a, ha, below_cell hb h1, below_cell hb h2, below_cell hb h3, below_cell hb h4⟩
/-- a number's rest, taken as an index -/
theorem and_rest (x : Int) (m : Nat) : ∃ r : Nat, (bits .and .i64 x 7).tmod ((m : Int) + 1) = (r : Int) ∧ r ≤ m := by
  have h0 : 0 ≤ (bits .and .i64 x 7).tmod ((m : Int) + 1) := by rw [i64_and7]; exact Int.tmod_nonneg _ (by omega)
  have h1 : (bits .and .i64 x 7).tmod ((m : Int) + 1) < (m : Int) + 1 := Int.tmod_lt_of_pos _ (by omega)
  exact ⟨((bits .and .i64 x 7).tmod ((m : Int) + 1)).toNat, by omega, by omega⟩
theorem and_rest15 (x : Int) (m : Nat) : ∃ r : Nat, (bits .and .i64 x 15).tmod ((m : Int) + 1) = (r : Int) ∧ r ≤ m := by
  have h0 : 0 ≤ (bits .and .i64 x 15).tmod ((m : Int) + 1) := by rw [i64_and15]; exact Int.tmod_nonneg _ (by omega)
  have h1 : (bits .and .i64 x 15).tmod ((m : Int) + 1) < (m : Int) + 1 := Int.tmod_lt_of_pos _ (by omega)
  exact ⟨((bits .and .i64 x 15).tmod ((m : Int) + 1)).toNat, by omega, by omega⟩
/-- a part of entries -/
theorem RE.cut {w : World} {A : Option Addr} {es : List Ent} {Ds : List Value} (h : RE w A es Ds) (c l m : Nat) (hlm : l ≤ m) (hm : m ≤ es.length) (hc : m ≤ c) (A' : Option Addr) (hA' : A' = if c = l then A else A.map (fun x => x.add (l * 4))) (hA : A = none → c = 0) :
    RE w A' ((es.drop l).take (m - l)) ((Ds.drop l).take (m - l)) ∧ (A' = none → m - l = 0) := by
  by_cases hcl : c = l
  · have h0 : m - l = 0 := by omega
    rw [h0]
    exact ⟨by simp only [List.take_zero]; exact RE.nil _ _, fun _ => rfl⟩
  · rw [if_neg hcl] at hA'
    cases A with
    | none =>
      have := hA rfl
      have h0 : m - l = 0 := by omega
      rw [h0]
      exact ⟨by simp only [List.take_zero]; exact RE.nil _ _, fun _ => rfl⟩
    | some a =>
      by_cases h0 : 0 < es.length
      · obtain ⟨g, o, ha, -⟩ := h.addr h0
        rw [ha] at h hA'
        simp only [Option.map_some, Addr.add_lit] at hA'
        rw [hA']
        exact ⟨(h.drop l).take _, fun h => by cases h⟩
      · have h0 : m - l = 0 := by omega
        rw [h0]
        exact ⟨by simp only [List.take_zero]; exact RE.nil _ _, fun _ => rfl⟩
/-- how far a merge's rows reach -/
theorem reach_of (m0 pv : Nat) (many : Int) (h1 : m0 ≤ 19) (h2 : pv ≤ m0) : ∃ mv hh : Nat, bits .and .i64 many 7 = (mv : Int) ∧ (if wrap64 ((pv : Int) + (mv : Int)) < (m0 : Int) then wrap64 ((pv : Int) + (mv : Int)) else (m0 : Int)) = (hh : Int) ∧ pv ≤ hh ∧ hh ≤ m0 := by
  have h7 := i64_and7 many
  refine ⟨(bits .and .i64 many 7).toNat, min m0 (pv + (bits .and .i64 many 7).toNat), by omega, ?_, by omega, by omega⟩
  have hw : wrap64 ((pv : Int) + ((bits .and .i64 many 7).toNat : Int)) = (pv : Int) + ((bits .and .i64 many 7).toNat : Int) := by
    rw [h7]
    unfold wrap64
    omega
  rw [hw]
  split <;> omega

set_option maxRecDepth 100000 in
set_option maxHeartbeats 8000000 in
theorem trailMatches_walk (A : Option Addr) (n c : Nat) (ns : List Int) (A2 : Option Addr) (n2 c2 : Nat) (qs : List (Int × Int × Int × Int)) (w : World) (hE : ErrT w) (hr : RI w A ns) (hl : ns.length = n) (hn : n ≤ 100000000000000) (hq : R4 w A2 qs) (hql : qs.length = n2) (hn2 : n2 ≤ 100000000000000) :
    Calls Tryd.prog 5 #[.slice A n c, .slice A2 n2 c2] w fun e w' => e = .returned (.bool true) ∧ Below w.heap.size w w' := by
  have HS := Lib.hid (small_any w hE)
  have HL := Lib.hid hl
  have HR := Lib.hid hr
  clear hr hl hE
  obtain ⟨M, hM⟩ : ∃ M, M = min n 8 := ⟨_, rfl⟩
  go_enter Tryd.func5, Tryd.ntmps5
  go_upto_block 0 with (first
    | (go_at_call 9; refine (new0_any _).mono ?_; rintro e w3 ⟨pb, vb, Db, rfl, tb, b3⟩; have B3 := below_then B2 B2.size b3)
    | (go_at_call 9; refine (new0_any _).mono ?_; rintro e w2 ⟨pa, va, Da, rfl, ta, b2⟩; have B2 := below_then b1 b1.size b2)
    | (go_at_call 8; refine HS.out.mono ?_; rintro e w1 ⟨rfl, b1⟩))
  go_cut [10] (fun s10 wx => ∃ (N : Nat) (ls : List (List Ent)) (vals : List Value) (LA : Option Addr) (lc : Nat), s10 = .slice LA (N + 1) lc ∧ N ≤ 8 ∧ Hid (Logs N ls) ∧ Hid (∀ l ∈ ls, l.length ≤ 19) ∧ Hid (ls.length = N + 1) ∧
      Hid (wx.ownsRow w3.heap.size 22 1 (.slice LA (N + 1) lc) (N + 1) vals) ∧ Hid (LG wx w3.heap.size vals ls) ∧ Below w3.heap.size w3 wx)
  case first =>
    as_aux_lemma =>
    go_wp2_with fail
    go_loopg [10, 11] M (fun q li ii wr => ∃ (i : Nat) (ls : List (List Ent)) (vals : List Value) (LA : Option Addr) (lc : Nat), q = M - i ∧ i ≤ M ∧ li = .slice LA (i + 1) lc ∧ ii = .int .i64 i ∧ Hid (Logs i ls) ∧ Hid (∀ l ∈ ls, l.length ≤ 19) ∧ Hid (ls.length = i + 1) ∧
        Hid (wr.ownsRow w3.heap.size 22 1 (.slice LA (i + 1) lc) (i + 1) vals) ∧ Hid (LG wr w3.heap.size vals ls) ∧ Below w3.heap.size w3 wr)
    case atStart =>
      refine ⟨0, [[]], [.slice none 0 0], _, _, by omega, by omega, rfl, rfl, Lib.hid Logs.start, Lib.hid (by simp), Lib.hid rfl, Lib.hid ?_, Lib.hid ⟨rfl, fun j h1 h2 => ?_⟩, below_alloc _ _⟩
      · exact ⟨rfl, .inr ⟨w3.heap.size, 1, _, rfl, Nat.le_refl _, heap_alloc_new w3 _, by omega, by unfold maxLen; omega, rfl, rfl⟩⟩
      · obtain rfl : j = 0 := by simp at h1; omega
        exact ⟨[], OE.nil _ _⟩
    case round =>
      as_aux_lemma =>
      obtain ⟨i, ls, vals, LA, lc, hm, hi, rfl, rfl, HLG, HL19, HLL, OWN, LGW, bel⟩ := hrel
      by_cases hil : i < M
      · have hi8 : (i : Int) < 8 := by omega
        have hi9 : (i : Int) < (n : Int) := by omega
        have hie : i < ns.length := by rw [HL.out]; omega
        obtain ⟨g, o, rfl, hg, hc⟩ := (HR.out.below (B3.trans (bel.mono B3.size))).addr (by omega)
        have hce := hc i hie
        obtain ⟨s, hs⟩ : ∃ s, s = ns[i] := ⟨_, rfl⟩
        rw [← hs] at hce
        clear hc hs
        obtain ⟨r, hr⟩ : ∃ r : Nat, (bits .and .i64 (s / 16) 3).tmod ((i : Int) + 1) = (r : Int) := ⟨_, (Int.toNat_of_nonneg (by rw [i64_and3]; exact Int.tmod_nonneg _ (by omega))).symm⟩
        have hri : r ≤ i := by
          have h1 : (bits .and .i64 (s / 16) 3).tmod ((i : Int) + 1) < (i : Int) + 1 := Int.tmod_lt_of_pos _ (by omega)
          omega
        obtain ⟨d, hd⟩ : ∃ d : Nat, (i : Int) - (r : Int) = (d : Int) := ⟨i - r, by omega⟩
        have hdi : d < ls.length := by rw [HLL.out]; omega
        have hdi1 : (d : Int) < (i : Int) + 1 := by omega
        obtain ⟨Dd, od⟩ := LGW.out.2 d (by rw [LGW.out.1]; exact hdi) hdi
        have hdv : d < vals.length := by rw [LGW.out.1]; exact hdi
        obtain ⟨gl, cl, hcl⟩ : ∃ gl cl, Value.slice LA (i + 1) lc = .slice (some ⟨gl, 0, none⟩) (i + 1) cl := by obtain ⟨g, cap, h, -⟩ := own_head OWN.out (by omega); exact ⟨g, cap, h⟩
        cases hcl
        have hvd : wr.cell? ⟨gl, d, none⟩ = some vals[d] := by
          have := OWN.out.cells (g := gl) rfl d vals[d] (by simp)
          rw [Addr.add_lit] at this
          simpa using this
        obtain ⟨l0, hl0⟩ : ∃ l0, l0 = ls[d] := ⟨_, rfl⟩
        rw [← hl0] at od
        have HM0 := Lib.hid (show l0 ∈ ls by rw [hl0]; exact List.getElem_mem _)
        obtain ⟨m0, hm0⟩ : ∃ m, m = l0.length := ⟨_, rfl⟩
        have hm19 : m0 ≤ 19 := by rw [hm0]; exact HL19.out _ HM0.out
        obtain ⟨A0, c0, hv0, hre0, hc0, hcm0, hA0⟩ := od.re
        rw [hv0, ← hm0] at hvd
        obtain ⟨k, hk⟩ : ∃ k : Nat, (bits .and .i64 s 15).tmod ((m0 : Int) + 1) = (k : Int) := ⟨_, (Int.toNat_of_nonneg (by rw [i64_and15]; exact Int.tmod_nonneg _ (by omega))).symm⟩
        have hk1 : k ≤ m0 ∧ k ≤ 15 := by
          have h1 : (bits .and .i64 s 15).tmod ((m0 : Int) + 1) < (m0 : Int) + 1 := Int.tmod_lt_of_pos _ (by omega)
          have h2 : (bits .and .i64 s 15).tmod ((m0 : Int) + 1) ≤ bits .and .i64 s 15 := by
            have := i64_and15 s
            rw [Int.tmod_eq_emod_of_nonneg (by omega), Int.emod_def]
            have := Int.mul_nonneg (show (0 : Int) ≤ (m0 : Int) + 1 by omega) (Int.ediv_nonneg (show (0 : Int) ≤ bits .and .i64 s 15 by omega) (show (0 : Int) ≤ (m0 : Int) + 1 by omega))
            omega
          have := i64_and15 s
          omega
        obtain ⟨hk0, hk15⟩ := hk1
        have hkc0 : (0 : Int) ≤ (k : Int) := by omega
        have hkc : (k : Int) ≤ (c0 : Int) := by omega
        have HML := Lib.hid hm0
        have HRE := Lib.hid hre0
        have HA0 := Lib.hid hA0
        have OD0 := Lib.hid od
        clear hl0 hm0 hv0 hre0 hA0 od hcm0
        go_wp2_with (at_builtin; refine wpList_append_ents rfl (.tmp 97) (.tmp 100) rfl wr.heap.size (.slice (some ⟨wr.heap.size, 0, none⟩) 0 0) 0 [] (l0.take k) (Dd.take k) k c0 A0 rfl rfl (World.ownsRow_made wr #[] 0 (Nat.le_refl _) (by unfold maxLen; omega) rfl) ((HRE.out.below (below_alloc wr _)).take k) (by rw [List.length_take, ← HML.out]; omega) HA0.out (by omega) (by simp) ?_; intro v4 w4 own4 hg4; rw [Nat.zero_add, List.nil_append] at own4; (have g4 := (below_alloc wr (.cells #[] 44)).grown hg4 (below_alloc wr _).size (fun q hq => by simp [Value.ownBlock] at hq; omega)))
        obtain ⟨V4, c4, rfl, -, -⟩ := own_shape own4
        have HD4 := Lib.hid ((OD0.out.da.take k).below g4)
        go_loopg [14] 4 (fun q li wr2 => ∃ (j : Nat) (V : Option Addr) (cv : Nat) (Dj : List Value), q = 4 - j ∧ j ≤ 4 ∧ li = .slice V (k + j) cv ∧ wr2.ownsRow wr.heap.size 44 4 (.slice V (k + j) cv) (k + j) (ecells (l0.take k ++ logs4 k (i + 1) j) Dj) ∧ Hid (DA wr2 w3.heap.size (l0.take k ++ logs4 k (i + 1) j) Dj) ∧ Below wr.heap.size wr wr2)
        case atStart => exact ⟨0, V4, c4, Dd.take k, by omega, by omega, rfl, by simpa [logs4] using own4, by simpa [logs4] using HD4, g4⟩
        case round =>
          as_aux_lemma =>
          obtain ⟨j, V, cv, Dj, hm2, hj4, rfl, ownj, HDJ, belj⟩ := hrel
          by_cases hjl : j < 4
          · have hjl1 : (k : Int) + (j : Int) < (k : Int) + 4 := by omega
            have HLO := Lib.hid fun (w' : World) => log_at (k + j + 1) (i + 1) ((k : Int) + (j : Int) + 1) ((i : Int) + 1) w' (by push_cast; omega) (by push_cast; omega) (by omega) (by omega)
            go_wp2_with (first
              | (go_at_call 17; refine (HLO.out _).mono ?_; rintro e w5 ⟨D5, rfl, od5, b5⟩; (have own5 := own_below ownj b5); (have bel5 := below_then belj belj.size b5))
              | (at_builtin; refine wpList_append_ent w5 rfl (.tmp 107) (.tmp 114) rfl _ (.slice V (k + j) cv) (k + j) _ rfl own5 ((k : Int) + (j : Int) + 1) ((i : Int) + 1) 0 D5 (by obtain ⟨_, _, rfl, -⟩ := own_shape od5.1; rfl) rfl (by omega) bel5.size ?_; intro v6 w6 own6 hg6))
            obtain ⟨V6, c6, rfl, -, -⟩ := own_shape own6
            go_roundg (4 - (j + 1))
            case measure => omega
            case rel =>
              refine ⟨j + 1, V6, c6, Dj ++ [D5], rfl, by omega, rfl, ?_, Lib.hid ?_, (bel5.alloc bel5.size _).grown hg6 (bel5.alloc bel5.size _).size (fun q hq => (own5.lt q hq).1)⟩
              · have e1 : l0.take k ++ logs4 k (i + 1) (j + 1) = (l0.take k ++ logs4 k (i + 1) j) ++ [logE (k + j + 1) (i + 1)] := by simp [logs4]
                rw [e1, ecells_append _ _ HDJ.out.1]
                have e2 : ecells [logE (k + j + 1) (i + 1)] [D5] = [.int .i64 ((k : Int) + (j : Int) + 1), .int .i64 ((i : Int) + 1), .int .i64 0, D5] := by simp [ecells, logE]
                rw [e2]
                exact own6
              · have e1 : l0.take k ++ logs4 k (i + 1) (j + 1) = (l0.take k ++ logs4 k (i + 1) j) ++ [logE (k + j + 1) (i + 1)] := by simp [logs4]
                rw [e1]
                refine ((HDJ.out.below b5).grownRow own5 hg6).add ⟨own_lower (own_grown od5.1 own5 (by decide) hg6) ?_, od5.2⟩
                exact Nat.le_trans bel.size belj.size
          · obtain rfl : j = 4 := by omega
            have OWNJ := Lib.hid (own_below OWN.out belj)
            have LGJ := Lib.hid (LGW.out.below belj)
            have belw := below_then bel bel.size belj
            go_wp2_with (at_builtin; refine wpList_append_one wr rfl (.tmp 116) (.tmp 118) 50 rfl w3.heap.size 22 (.slice none 0 0) 24 Tryd.underlying50 info_ents rfl (.slice (some ⟨gl, 0, none⟩) (i + 1) lc) (i + 1) vals rfl OWNJ.out (.slice V (k + 4) cv) rfl rfl (by unfold maxLen; omega) (by omega) belw.size ?_; intro v7 w7 own7 hg7)
            obtain ⟨V7, c7, rfl, -, -⟩ := own_shape own7
            go_roundg (M - (i + 1))
            case measure => omega
            case rel =>
              refine ⟨i + 1, ls ++ [l0.take k ++ logs4 k (i + 1) 4], vals ++ [.slice V (k + 4) cv], V7, c7, rfl, by omega, rfl, by go_num, Lib.hid (HLG.out.step HM0.out k (by rw [← HML.out]; exact hk0)), Lib.hid ?_, Lib.hid (by simp [HLL.out]), Lib.hid own7, Lib.hid ?_, (belw.alloc belw.size _).grown hg7 (belw.alloc belw.size _).size (fun q hq => (OWNJ.out.lt q hq).1)⟩
              · intro l hl
                rcases List.mem_append.1 hl with h | h
                · exact HL19.out l h
                · obtain rfl := List.mem_singleton.1 h
                  rw [List.length_append, logs4_length, List.length_take]
                  omega
              · have hlen : (l0.take k ++ logs4 k (i + 1) 4).length = k + 4 := by rw [List.length_append, logs4_length, List.length_take, ← HML.out]; omega
                refine (LGJ.out.add (Ds := Dj) ⟨HDJ.out.1, ?_, HDJ.out.2⟩).grownRow OWNJ.out hg7
                rw [hlen]
                exact own_lower ownj bel.size
      · obtain rfl : i = M := by omega
        have hi8 : i ≤ 8 := by omega
        have hend : (((i : Int) < (n : Int)) ∧ ¬ ((i : Int) < 8)) ∨ ¬ ((i : Int) < (n : Int)) := by omega
        rcases hend with ⟨h1, h2⟩ | h1
        · have d1 := decide_eq_true h1
          have d2 := decide_eq_false h2
          clear h1 h2 hM
          go_wp2_with fail
          all_goals
            go_meet
            exact ⟨i, ls, vals, LA, lc, rfl, hi8, HLG, HL19, HLL, OWN, LGW, bel⟩
        · obtain rfl : i = n := by omega
          clear h1 hM
          go_wp2_with fail
          all_goals
            go_meet
            exact ⟨i, ls, vals, LA, lc, rfl, hi8, HLG, HL19, HLL, OWN, LGW, bel⟩
  case rest =>
    as_aux_lemma =>
    obtain ⟨N, ls, vals, LA, lc, rfl, hN8, HLG, HL19, HLL, OWN, LGW, bel⟩ := hcut
    obtain ⟨w9, rfl⟩ : ∃ x, x = wc := ⟨_, rfl⟩
    obtain ⟨gl, cl, hcl⟩ : ∃ gl cl, Value.slice LA (N + 1) lc = .slice (some ⟨gl, 0, none⟩) (N + 1) cl := by obtain ⟨g, cap, h, -⟩ := own_head OWN.out (by omega); exact ⟨g, cap, h⟩
    cases hcl
    have hl0 : ls[0]'(by rw [HLL.out]; omega) ∈ ls := List.getElem_mem _
    have hpp : Piece ls 0 0 [] := Piece.start hl0
    have hpab : pa < w2.heap.size ∧ w2.heap.size ≤ pb ∧ pb < w3.heap.size ∧ w1.heap.size ≤ pa := ⟨ta.lt, tb.1, tb.lt, ta.1⟩
    have b23 := b2.size
    have b33 := b3.size
    have bls := bel.size
    have MZ := Lib.hid (show Mz ls w1.heap.size pa pb w9.heap.size w9 (w9.alloc (.cells #[.pointer (some ⟨pa, 0, none⟩), .pointer (some ⟨pb, 0, none⟩)] 24)) from by
      have ba := below_alloc w9 (.cells #[.pointer (some ⟨pa, 0, none⟩), .pointer (some ⟨pb, 0, none⟩)] 24)
      refine ⟨⟨0, 0, va, [], Da, (ta.below (below_then b3 b3.size bel)).below ba, hpp⟩, ⟨0, 0, vb, [], Db, ((tb.below bel).lower b2.size).below ba, hpp⟩, Frm.of_below ba, ?_, ?_⟩
      · rw [World.cell?_alloc_at _ _ _ _ rfl]; rfl
      · rw [World.cell?_alloc_at _ _ _ _ rfl]; rfl)
    have BC := Lib.hid (below_then B3 B3.size bel)
    have HS := Lib.hid (show ∀ k, k = pa ∨ k = pb → k < w3.heap.size from fun k hk => by omega)
    have HPAB := Lib.hid (show pa ≠ pb ∧ pa < w9.heap.size ∧ pb < w9.heap.size from by omega)
    have HQ := Lib.hid hq
    have HQL := Lib.hid hql
    clear hq hql ta tb hl0 hpp
    go_upto_block 4 with fail
    go_wp2_with fail
    go_loopg [16] n2 (fun q ii wr => ∃ i : Nat, q = n2 - i ∧ i ≤ n2 ∧ ii = .int .i64 i ∧ Mz ls w1.heap.size pa pb w9.heap.size w9 wr)
    case atStart => exact ⟨0, by omega, by omega, rfl, MZ.out⟩
    case round =>
      as_aux_lemma =>
      obtain ⟨i, hm, hi, rfl, mz⟩ := hrel
      have BW := Lib.hid (show Below w.heap.size w wr from BC.out.trans (mz.f.below BC.out.size (fun k hk => by have := hpab; have := b1.size; omega)))
      by_cases hil : i < n2
      · by_cases hi100 : i < 100
        · have hi1 : (i : Int) < (n2 : Int) := by omega
          have hi2 : (i : Int) < 100 := by omega
          have hie : i < qs.length := by rw [HQL.out]; exact hil
          obtain ⟨g2, o2, rfl, hg2, hc2⟩ := (HQ.out.below BW.out).addr (by omega)
          obtain ⟨e1, e2, e3, e4⟩ := hc2 i hie
          obtain ⟨⟨who, prv, many, cmp⟩, hx⟩ : ∃ x, x = qs[i] := ⟨_, rfl⟩
          rw [← hx] at e1 e2 e3 e4
          simp only at e1 e2 e3 e4
          clear hc2 hx
          obtain ⟨wb, hwb⟩ : ∃ wb, wb = wr.alloc (.cells #[.int .i64 who, .int .i64 prv, .int .i64 many, .int .i64 cmp] 55) := ⟨_, rfl⟩
          have bwb : Below wr.heap.size wr wb := by rw [hwb]; exact below_alloc _ _
          have k1 : wb.cell? ⟨wr.heap.size, 0, none⟩ = some (.int .i64 who) := by rw [hwb, World.cell?_alloc_at _ _ _ _ rfl]; rfl
          have k2 : wb.cell? ⟨wr.heap.size, 1, none⟩ = some (.int .i64 prv) := by rw [hwb, World.cell?_alloc_at _ _ _ _ rfl]; rfl
          have k3 : wb.cell? ⟨wr.heap.size, 2, none⟩ = some (.int .i64 many) := by rw [hwb, World.cell?_alloc_at _ _ _ _ rfl]; rfl
          have k4 : wb.cell? ⟨wr.heap.size, 3, none⟩ = some (.int .i64 cmp) := by rw [hwb, World.cell?_alloc_at _ _ _ _ rfl]; rfl
          have hszb : wr.heap.size < wb.heap.size := by rw [hwb]; simp
          obtain ⟨e, he⟩ : ∃ e : Nat, bits .and .i64 who 1 = (e : Int) := ⟨(bits .and .i64 who 1).toNat, by rw [i64_and1]; omega⟩
          have he2 : e = 0 ∨ e = 1 := by have := i64_and1 who; omega
          have he3 : (e : Int) < 2 := by omega
          have mzb := mz.below bwb
          obtain ⟨pe, hpe, hce⟩ : ∃ pe, (pe = pa ∨ pe = pb) ∧ wb.cell? ⟨w9.heap.size, e, none⟩ = some (.pointer (some ⟨pe, 0, none⟩)) := by
            rcases he2 with rfl | rfl
            · exact ⟨pa, .inl rfl, mzb.c0⟩
            · exact ⟨pb, .inr rfl, mzb.c1⟩
          obtain ⟨d, hd, hdN⟩ := and_rest (who / 2) N
          have hdi : d < ls.length := by rw [HLL.out]; omega
          have hdi1 : (d : Int) < (N : Int) + 1 := by omega
          have hSS := HS.out
          have LGb := LGW.out.frm mzb.f hSS
          have OWb := own_frm OWN.out mzb.f hSS
          have hdv : d < vals.length := by rw [LGW.out.1]; exact hdi
          obtain ⟨Dd, od⟩ := LGb.2 d hdv hdi
          have hvd : wb.cell? ⟨gl, d, none⟩ = some vals[d] := by
            have := OWb.cells (g := gl) rfl d vals[d] (by simp)
            rw [Addr.add_lit] at this
            simpa using this
          obtain ⟨l0, hl0⟩ : ∃ l0, l0 = ls[d] := ⟨_, rfl⟩
          rw [← hl0] at od
          have HM0 := Lib.hid (show l0 ∈ ls by rw [hl0]; exact List.getElem_mem _)
          obtain ⟨m0, hm0⟩ : ∃ m, m = l0.length := ⟨_, rfl⟩
          have hm19 : m0 ≤ 19 := by rw [hm0]; exact HL19.out _ HM0.out
          obtain ⟨A0, c0, hv0, hre0, hc0, hcm0, hA0⟩ := od.re
          rw [hv0, ← hm0] at hvd
          obtain ⟨pv, hpv, hpvm⟩ := and_rest15 prv m0
          have hmc0 : m0 ≤ c0 := by omega
          have HML := Lib.hid hm0
          have HRE := Lib.hid hre0
          have HA0 := Lib.hid hA0
          have MZB := Lib.hid mzb
          have HPE := Lib.hid hpe
          clear hl0 hm0 hv0 hre0 hA0 hcm0 LGb OWb hSS he2 hpe
          have HWB := Lib.hid hwb
          clear hwb
          go_upto_region 21 with fail
          rw [← HWB.out]
          go_upto_if 161 with fail
          go_cut [21] (fun s21 wx => s21 = .int .i64 (termN 0 l0 pv) ∧ wx = wb)
          case first =>
            as_aux_lemma =>
            cases pv with
            | zero =>
              go_wp2_with fail
              go_meet
              exact ⟨rfl, rfl⟩
            | succ q =>
              obtain ⟨g0, o0, rfl, hg0, -⟩ := HRE.out.addr (by rw [← HML.out]; omega)
              have hql : q < l0.length := by rw [← HML.out]; omega
              obtain ⟨-, hct, -⟩ := HRE.out.at q hql
              have HTQ := Lib.hid (termN_succ 0 l0 q hql)
              obtain ⟨T, hT⟩ : ∃ T, T = l0[q].t := ⟨_, rfl⟩
              rw [← hT] at hct HTQ
              have hq1 : (q : Int) < (m0 : Int) := by omega
              have hq0 : (0 : Int) ≤ (q : Int) := by omega
              clear hT hpv hd he
              go_wp2_with fail
              go_meet
              exact ⟨by rw [HTQ.out], rfl⟩
          case rest =>
            as_aux_lemma =>
            obtain ⟨rfl, hw⟩ := hcut
            obtain rfl : wb = wc := hw.symm
            have HMG := Lib.hid fun (T : Int) (hT : T = termN 0 l0 pv) (hh : Nat) (hh1 : pv ≤ hh) (hh2 : hh ≤ m0) (A' : Option Addr) (hA' : A' = if c0 = pv then A0 else Option.map (fun x => x.add (pv * 4)) A0) => (show Calls Tryd.prog 12 #[.pointer (some ⟨pe, 0, none⟩), .int .i64 pv, .int .i64 T, .slice A' (hh - pv) (c0 - pv)] wb fun e w' => ∃ V, e = .returned V ∧ Mz ls w1.heap.size pa pb w9.heap.size w9 w' ∧ StT ls w1.heap.size pe w' ∧ w'.cell? ⟨wr.heap.size, 3, none⟩ = some (.int .i64 cmp) from by
              have hsp : StT ls w1.heap.size pe wb := by rcases HPE.out with rfl | rfl; exact MZB.out.s1; exact MZB.out.s2
              have hpew : pe < wr.heap.size := by rcases HPE.out with rfl | rfl; exact mz.s1.lt; exact mz.s2.lt
              have hls : ∀ l ∈ ls, l.length ≤ 100 := fun l hl => Nat.le_trans (HL19.out l hl) (by decide)
              obtain ⟨hre2, hn2⟩ := HRE.out.cut c0 pv hh hh1 (by rw [← HML.out]; exact hh2) (Nat.le_trans hh2 hmc0) A' hA' HA0.out
              refine (merge_one HLG.out hls hsp (Nat.le_trans hsp.base (Nat.le_of_lt hsp.lt)) HM0.out (by rw [← HML.out]; exact hpvm) rfl A' (hh - pv) (c0 - pv) _ hre2 (by rw [List.length_take, List.length_drop, ← HML.out]; omega) (Nat.sub_le_sub_right (Nat.le_trans hh2 hmc0) _) hn2 T hT).mono ?_
              rintro e w5 ⟨V5, rfl, st5, g5⟩
              exact ⟨V5, rfl, MZB.out.told HPAB.out.1 HPE.out HPAB.out.2 st5 g5, st5, g5.cell k4 (by simp; omega)⟩)
            obtain ⟨T, hT⟩ : ∃ T, T = termN 0 l0 pv := ⟨_, rfl⟩
            rw [← hT]
            have HT := Lib.hid hT
            obtain ⟨mv, hh, hmv, hif, hh1, hh2⟩ := reach_of m0 pv many hm19 hpvm
            have hh3 : (pv : Int) ≤ (hh : Int) := Int.ofNat_le.2 hh1
            have hh4 : (hh : Int) ≤ (c0 : Int) := Int.ofNat_le.2 (Nat.le_trans hh2 hmc0)
            have hh5 : (0 : Int) ≤ (pv : Int) := Int.natCast_nonneg _
            clear hT k1 k2 hce hvd
            go_upto_region 27 with fail
            go_cut [19, 20] (fun _ _ wx => Mz ls w1.heap.size pa pb w9.heap.size w9 wx ∧ StT ls w1.heap.size pe wx ∧ wx.cell? ⟨wr.heap.size, 3, none⟩ = some (.int .i64 cmp))
            case first =>
              as_aux_lemma =>
              go_wp2_with (go_at_call 12; refine (HMG.out T HT.out hh hh1 hh2 _ rfl).mono ?_; rintro e w5 ⟨V5, rfl, mz5⟩)
              all_goals
                go_meet
                exact mz5
            case rest =>
              as_aux_lemma =>
              obtain ⟨w5, rfl⟩ : ∃ x, x = wc := ⟨_, rfl⟩
              obtain ⟨mz5, st5, q4⟩ := hcut
              have HST5 := Lib.hid st5
              have HM5 := Lib.hid mz5
              have HCO := Lib.hid fun (x : Int) => compact_one (N := 0) (fun l hl => Nat.le_trans (HL19.out l hl) (by decide)) st5 (Nat.le_trans st5.base (Nat.le_of_lt st5.lt)) x
              clear mz5 st5 HMG hif hh3 hh4 hh5 hh1 hh2 hmv hpv hd he
              go_upto_if 186 with fail
              go_cut [] (fun wx => Mz ls w1.heap.size pa pb w9.heap.size w9 wx)
              case first =>
                as_aux_lemma =>
                by_cases hq15 : bits .and .i64 cmp 15 = 1
                · have d15 : (bits .and .i64 cmp 15 == 1) = true := beq_iff_eq.2 hq15
                  clear hq15
                  go_wp2_with (go_at_call 18; refine (HCO.out _).mono ?_; rintro e w6 ⟨V6, rfl, st6, g6⟩)
                  go_meet
                  exact HM5.out.told HPAB.out.1 HPE.out HPAB.out.2 st6 g6
                · have d15 : (bits .and .i64 cmp 15 == 1) = false := beq_eq_false_iff_ne.2 hq15
                  clear hq15
                  go_wp2_with fail
                  go_meet
                  exact HM5.out
              case rest =>
                as_aux_lemma =>
                obtain ⟨w7, rfl⟩ : ∃ x, x = wc := ⟨_, rfl⟩
                have HM7 := Lib.hid hcut
                obtain ⟨⟨ia, ta, va', ea, Dsa, TA, PA⟩, ⟨ib, tb, vb', eb, Dsb, TB, PB⟩, -, -, -⟩ := hcut
                obtain ⟨la, hla, a1, a2, a3⟩ := PA
                obtain ⟨lb, hlb, b1', b2', b3'⟩ := PB
                have ha19 := HL19.out la hla
                have hb19 := HL19.out lb hlb
                obtain ⟨La, ca, hva, rea, -⟩ := TA.2.2.re
                obtain ⟨Lb, cb, hvb, reb, -⟩ := TB.2.2.re
                obtain ⟨na, hna⟩ : ∃ n, n = ea.length := ⟨_, rfl⟩
                obtain ⟨nb, hnb⟩ : ∃ n, n = eb.length := ⟨_, rfl⟩
                obtain ⟨b0, hb0⟩ : ∃ b, b = w1.heap.size := ⟨_, rfl⟩
                rw [← hb0] at TA TB
                clear hb0
                have HBA := Lib.hid fun (w1 : World) (h : Below w7.heap.size w7 w1) => (base_any pa ia ta va' w1 (TA.below h).tr).mono fun e w' ⟨h1, m, h2⟩ => (⟨h1, by rw [h2]; exact below_draws' (Below.refl _ _) m⟩ : e = Ending.returned (.tuple #[.int .i64 ia, .int .i64 ta]) ∧ Below w1.heap.size w1 w')
                have HBB := Lib.hid fun (w1 : World) (h : Below w7.heap.size w7 w1) => (base_any pb ib tb vb' w1 (TB.below h).tr).mono fun e w' ⟨h1, m, h2⟩ => (⟨h1, by rw [h2]; exact below_draws' (Below.refl _ _) m⟩ : e = Ending.returned (.tuple #[.int .i64 ib, .int .i64 tb]) ∧ Below w1.heap.size w1 w')
                have HLA := Lib.hid fun (w1 : World) (h : Below w7.heap.size w7 w1) => (show Calls Tryd.prog 10 #[.pointer (some ⟨pa, 0, none⟩)] w1 fun e w' => e = .returned (.tuple #[.int .i64 ((ia : Int) + (na : Int)), .int .i64 (endT ta ea)]) ∧ Below w1.heap.size w1 w' from by
                  have h1 := (TA.below h).tr
                  rw [hva] at h1
                  rw [hna]
                  exact (last_any pa ia ta La ca ea Dsa w1 h1 (rea.below h) (by omega) (by omega) (by omega)).mono fun e w' ⟨h1, m, h2⟩ => ⟨h1, by rw [h2]; exact below_draws' (Below.refl _ _) m⟩)
                have HATA := Lib.hid fun (w1 : World) (h : Below w7.heap.size w7 w1) (q j : Nat) (hj : j < ea.length) (hq : q = ia + j) => (at_yes b0 pa ia ta va' ea Dsa j ((q : Int) + 1) w1 (TA.below h) (by omega) (by omega) (by omega) hj (by omega))
                have HATB := Lib.hid fun (w1 : World) (h : Below w7.heap.size w7 w1) (q j : Nat) (hj : j < eb.length) (hq : q = ib + j) => (at_yes b0 pb ib tb vb' eb Dsb j ((q : Int) + 1) w1 (TB.below h) (by omega) (by omega) (by omega) hj (by omega))
                have HATN := Lib.hid fun (w1 : World) (h : Below w7.heap.size w7 w1) (q : Nat) (hq : ib + nb < q + 1) => (at_no b0 pb ib tb vb' eb Dsb ((q : Int) + 1) w1 (TB.below h) (by omega) (by omega) (by omega) (.inr (by rw [← hnb]; omega)))
                have HA := Lib.hid (show la ∈ ls ∧ ia + ea.length ≤ la.length ∧ ea = (la.drop ia).take ea.length from ⟨hla, a1, a3⟩)
                have HB := Lib.hid (show lb ∈ ls ∧ ib + eb.length ≤ lb.length ∧ eb = (lb.drop ib).take eb.length from ⟨hlb, b1', b3'⟩)
                have HNA := Lib.hid hna
                have HNB := Lib.hid hnb
                have hia : ia + na ≤ 100 := by omega
                have hib : ib + nb ≤ 100 := by omega
                clear hla hlb a1 a2 a3 b1' b2' b3' hva hvb rea reb hna hnb TA TB ha19 hb19 HCO HM5 HST5
                go_upto_block 6 with (first
                  | (go_at_call 10; refine (HLA.out _ bb9).mono ?_; rintro e w10 ⟨rfl, b10⟩; (have bb10 := below_then bb9 bb9.size b10))
                  | (go_at_call 19; (have hb8 := b8.size); refine (HBB.out _ b8).mono ?_; rintro e w9' ⟨rfl, b9⟩; (have bb9 := below_then b8 b8.size b9))
                  | (go_at_call 19; refine (HBA.out _ (Below.refl _ _)).mono ?_; rintro e w8 ⟨rfl, b8⟩))
                go_wp2_with fail
                go_loopg [28, 29] (ia + na) (fun q s28 s29 wx => ∃ (K : Nat) (sm : Bool), q = K ∧ s28 = .bool sm ∧ s29 = .int .i64 K ∧ K ≤ ia + na ∧ Hid (sm = true → K ≤ ib + nb ∧ la.take K = lb.take K) ∧ Below w7.heap.size w7 wx)
                case atStart => exact ⟨ia + na, false, rfl, rfl, by go_num, Nat.le_refl _, Lib.hid (fun h => by cases h), bb10⟩
                case round =>
                  as_aux_lemma =>
                  obtain ⟨K, sm, hmK, rfl, rfl, hKa, HF, belx⟩ := hrel
                  by_cases hK : max (ia : Int) (ib : Int) < (K : Int)
                  · cases K with
                    | zero => omega
                    | succ q =>
                      have hKc : (((q + 1 : Nat)) : Int) = (q : Int) + 1 := by push_cast; rfl
                      rw [hKc] at hK
                      rw [hKc]
                      have hja : q - ia < ea.length := by rw [← HNA.out]; omega
                      have hjq : q = ia + (q - ia) := by omega
                      have hqa : q < la.length := by have := HA.out.2.1; omega
                      obtain ⟨EA, hEA⟩ : ∃ E, E = ea[q - ia] := ⟨_, rfl⟩
                      have hEAl : EA = la[q] := by
                        rw [hEA, piece_get HA.out.2.1 HA.out.2.2 (q - ia) hja]
                        congr 1
                        omega
                      have HTA := Lib.hid fun (w1 : World) (h : Below w7.heap.size w7 w1) => HATA.out w1 h q (q - ia) hja hjq
                      rw [← hEA] at HTA
                      obtain ⟨ai, at_, ak, ad⟩ := EA
                      by_cases hb : q + 1 ≤ ib + nb
                      · have hjb : q - ib < eb.length := by rw [← HNB.out]; omega
                        have hjq2 : q = ib + (q - ib) := by omega
                        have hqb : q < lb.length := by have := HB.out.2.1; omega
                        obtain ⟨EB, hEB⟩ : ∃ E, E = eb[q - ib] := ⟨_, rfl⟩
                        have hEBl : EB = lb[q] := by
                          rw [hEB, piece_get HB.out.2.1 HB.out.2.2 (q - ib) hjb]
                          congr 1
                          omega
                        have HTB := Lib.hid fun (w1 : World) (h : Below w7.heap.size w7 w1) => HATB.out w1 h q (q - ib) hjb hjq2
                        rw [← hEB] at HTB
                        by_cases ht : at_ = EB.t
                        · have htk : la.take (q + 1) = lb.take (q + 1) := logs_same HLG.out HA.out.1 HB.out.1 q hqa hqb (by rw [← hEAl, ← hEBl]; exact ht)
                          have hEE : EB = ⟨ai, at_, ak, ad⟩ := by rw [hEAl, hEBl]; exact (take_get htk q (by omega) hqa hqb).symm
                          have HTK := Lib.hid htk
                          have HQB := Lib.hid hb
                          have HKM := Lib.hid hK
                          subst hEE
                          clear ht htk hEA hEAl hEB hEBl hja hjq hjb hjq2 hqa hqb hb HATA HATB HATN hKc
                          go_wp2_with (first
                            | (go_at_call 20; (have hb11 := b11.size); refine (HTB.out _ bb11).mono ?_; rintro e w12 ⟨D2, rfl, od2, b12⟩; obtain ⟨B2', c2', rfl, -, -⟩ := own_shape od2.1; (have bq := below_alloc w12 (.cells #[.int .i64 ai, .int .i64 at_, .int .i64 ak, .slice B2' ad.length c2'] 44)); (have bq2 := below_then b12 b12.size bq); (have x1 := below_cell bq2 y1); (have x3 := below_cell bq2 y3); (have s1 := run_str _ B1' ad c1' ((RB.own od1.1).below (below_then (below_alloc w11 _) (below_alloc w11 _).size bq2)) 9 Tryd.underlying9); (have s2 := run_str _ B2' ad c2' ((RB.own od2.1).below bq) 9 Tryd.underlying9); clear y1 y3)
                            | (go_at_call 20; refine (HTA.out _ belx).mono ?_; rintro e w11 ⟨D1, rfl, od1, b11⟩; obtain ⟨B1', c1', rfl, -, -⟩ := own_shape od1.1; (have bb11 := below_then (below_then belx belx.size b11) (below_then belx belx.size b11).size (below_alloc w11 (.cells #[.int .i64 ai, .int .i64 at_, .int .i64 ak, .slice B1' ad.length c1'] 44))); (have y1 : (w11.alloc (.cells #[.int .i64 ai, .int .i64 at_, .int .i64 ak, .slice B1' ad.length c1'] 44)).cell? ⟨w11.heap.size, 1, none⟩ = some (.int .i64 at_) := by rw [World.cell?_alloc_at _ _ _ _ rfl]; rfl); (have y3 : (w11.alloc (.cells #[.int .i64 ai, .int .i64 at_, .int .i64 ak, .slice B1' ad.length c1'] 44)).cell? ⟨w11.heap.size, 3, none⟩ = some (.slice B1' ad.length c1') := by rw [World.cell?_alloc_at _ _ _ _ rfl]; rfl)))
                          all_goals
                            go_roundg q
                            case measure => omega
                            case rel => exact ⟨q, true, rfl, rfl, by go_num, by omega, Lib.hid fun _ => ⟨by have := HQB.out; omega, take_less HTK.out (by omega)⟩, below_then bb11 bb11.size bq2⟩
                        · have hsm : sm = false := by
                            cases sm with
                            | false => rfl
                            | true =>
                              have htk := (HF.out rfl).2
                              exact absurd (show at_ = EB.t by rw [hEBl, ← take_get htk q (by omega) hqa hqb, ← hEAl]) ht
                          subst hsm
                          obtain ⟨bi, bt, bk, bd⟩ := EB
                          simp only at ht
                          have dne : (at_ == bt) = false := beq_eq_false_iff_ne.2 ht
                          have HQB := Lib.hid hb
                          clear ht hEA hEAl hEB hEBl hja hjq hjb hjq2 hqa hqb hb HATA HATB HATN hKc
                          go_wp2_with (first
                            | (go_at_call 20; (have hb11 := b11.size); refine (HTB.out _ bb11).mono ?_; rintro e w12 ⟨D2, rfl, od2, b12⟩; obtain ⟨B2', c2', rfl, -, -⟩ := own_shape od2.1; (have bq := below_alloc w12 (.cells #[.int .i64 bi, .int .i64 bt, .int .i64 bk, .slice B2' bd.length c2'] 44)); (have bq2 := below_then b12 b12.size bq); (have x1 := below_cell bq2 y1); clear y1)
                            | (go_at_call 20; refine (HTA.out _ belx).mono ?_; rintro e w11 ⟨D1, rfl, od1, b11⟩; obtain ⟨B1', c1', rfl, -, -⟩ := own_shape od1.1; (have bb11 := below_then (below_then belx belx.size b11) (below_then belx belx.size b11).size (below_alloc w11 (.cells #[.int .i64 ai, .int .i64 at_, .int .i64 ak, .slice B1' ad.length c1'] 44))); (have y1 : (w11.alloc (.cells #[.int .i64 ai, .int .i64 at_, .int .i64 ak, .slice B1' ad.length c1'] 44)).cell? ⟨w11.heap.size, 1, none⟩ = some (.int .i64 at_) := by rw [World.cell?_alloc_at _ _ _ _ rfl]; rfl)))
                          all_goals
                            go_roundg q
                            case measure => omega
                            case rel => exact ⟨q, false, rfl, rfl, by go_num, by omega, Lib.hid (fun h => by cases h), below_then bb11 bb11.size bq2⟩
                      · have hsm : sm = false := by
                          cases sm with
                          | false => rfl
                          | true => exact absurd (HF.out rfl).1 hb
                        subst hsm
                        have HTN := Lib.hid fun (w1 : World) (h : Below w7.heap.size w7 w1) => HATN.out w1 h q (by omega)
                        clear hEA hEAl hja hjq hqa hb HATA HATB HATN hKc
                        go_wp2_with (first
                          | (go_at_call 20; (have hb11 := b11.size); refine (HTN.out _ bb11).mono ?_; rintro e w12 ⟨rfl, b12⟩; (have bq := below_alloc w12 (.cells #[.int .i64 0, .int .i64 0, .int .i64 0, .slice none 0 0] 44)); (have bq2 := below_then b12 b12.size bq); (have x1 := below_cell bq2 y1); clear y1)
                          | (go_at_call 20; refine (HTA.out _ belx).mono ?_; rintro e w11 ⟨D1, rfl, od1, b11⟩; obtain ⟨B1', c1', rfl, -, -⟩ := own_shape od1.1; (have bb11 := below_then (below_then belx belx.size b11) (below_then belx belx.size b11).size (below_alloc w11 (.cells #[.int .i64 ai, .int .i64 at_, .int .i64 ak, .slice B1' ad.length c1'] 44))); (have y1 : (w11.alloc (.cells #[.int .i64 ai, .int .i64 at_, .int .i64 ak, .slice B1' ad.length c1'] 44)).cell? ⟨w11.heap.size, 1, none⟩ = some (.int .i64 at_) := by rw [World.cell?_alloc_at _ _ _ _ rfl]; rfl)))
                        all_goals
                          go_roundg q
                          case measure => omega
                          case rel => exact ⟨q, false, rfl, rfl, by go_num, by omega, Lib.hid (fun h => by cases h), below_then bb11 bb11.size bq2⟩
                  · go_wp2_with fail
                    all_goals
                      go_roundg (n2 - (i + 1))
                      case measure => omega
                      case rel => exact ⟨i + 1, rfl, by omega, by go_num, HM7.out.below belx⟩
        · have hi1 : (i : Int) < (n2 : Int) := by omega
          have d1 := decide_eq_true hi1
          have d2 : decide ((i : Int) < 100) = false := decide_eq_false (by omega)
          clear hi1 hi100
          go_wp2_with fail
          go_ret
          exact ⟨rfl, BW.out⟩
      · obtain rfl : i = n2 := by omega
        go_wp2_with fail
        go_ret
        exact ⟨rfl, BW.out⟩
end Go.Proofs.YtkjpfjgaabbggaaDoor
