/- trail.Merge: the contract. -/
import Derived.Test.YtkjpfjgaabbggaaDoorTIndex
import Derived.Outline
set_option linter.unusedVariables false
set_option linter.unusedSimpArgs false
namespace Go.Proofs.YtkjpfjgaabbggaaDoor
open Go.RowKit

/-- what Merge makes: the error, the number, the entries, the new ones -/
def mergeT (i t : Int) (es : List Ent) (prev term : Int) (l : List Ent) : Nat × Int × List Ent × List Ent :=
  if okNew prev term l = false then (1, 0, es, [])
  else if i + es.length < prev then (92, 0, es, [])
  else if prev + l.length < i then (0, prev + l.length, es, [])
  else if termT i t es (max prev i) = termN term l (i - prev).toNat then
    if (l.drop (i - prev).toNat).findIdx (isNew i t es) < (l.drop (i - prev).toNat).length then
      (0, prev + l.length, es.take (max prev i + (l.drop (i - prev).toNat).findIdx (isNew i t es) - i).toNat ++ (l.drop (i - prev).toNat).drop ((l.drop (i - prev).toNat).findIdx (isNew i t es)), (l.drop (i - prev).toNat).drop ((l.drop (i - prev).toNat).findIdx (isNew i t es)))
    else (0, prev + l.length, es, [])
  else (92, 0, es, [])
theorem mergeT_differs {i t : Int} {es : List Ent} {prev term : Int} {l : List Ent} (hok : okNew prev term l = true) (h1 : prev ≤ i + es.length) (h2 : i ≤ prev + l.length)
    {P T : Int} {l' : List Ent} (hP : P = max prev i) (hT : T = termN term l (i - prev).toNat) (hl : l' = l.drop (i - prev).toNat) (hd : ¬ termT i t es P = T) : mergeT i t es prev term l = (92, 0, es, []) := by
  subst hP hT hl
  unfold mergeT
  rw [hok, if_neg (by decide), if_neg (by omega), if_neg (by omega), if_neg hd]
theorem mergeT_none {i t : Int} {es : List Ent} {prev term : Int} {l : List Ent} (hok : okNew prev term l = true) (h1 : prev ≤ i + es.length) (h2 : i ≤ prev + l.length)
    {P T : Int} {l' : List Ent} (hP : P = max prev i) (hT : T = termN term l (i - prev).toNat) (hl : l' = l.drop (i - prev).toNat) (hd : termT i t es P = T) (hk : ¬ l'.findIdx (isNew i t es) < l'.length) : mergeT i t es prev term l = (0, prev + l.length, es, []) := by
  subst hP hT hl
  unfold mergeT
  rw [hok, if_neg (by decide), if_neg (by omega), if_neg (by omega), if_pos hd, if_neg hk]
theorem mergeT_some {i t : Int} {es : List Ent} {prev term : Int} {l : List Ent} (hok : okNew prev term l = true) (h1 : prev ≤ i + es.length) (h2 : i ≤ prev + l.length)
    {P T : Int} {l' : List Ent} (hP : P = max prev i) (hT : T = termN term l (i - prev).toNat) (hl : l' = l.drop (i - prev).toNat) (hd : termT i t es P = T) {k : Nat} (hk : l'.findIdx (isNew i t es) = k) (hkl : k < l'.length) :
    mergeT i t es prev term l = (0, prev + l.length, es.take (P + k - i).toNat ++ l'.drop k, l'.drop k) := by
  subst hP hT hl hk
  unfold mergeT
  rw [hok, if_neg (by decide), if_neg (by omega), if_neg (by omega), if_pos hd, if_pos hkl]

/-- what a merge leaves -/
def MergePost (w : World) (base p : Nat) (i t : Int) (R : Nat × Int × List Ent × List Ent) (e : Ending) (w' : World) : Prop :=
  ∃ M v' Ds' Dm, e = .returned (.tuple #[.int .i64 R.2.1, M, errV R.1]) ∧ w.grownBy w' (some p) ∧ TO w' base p i t v' R.2.2.1 Ds' ∧ OE w' w.heap.size M R.2.2.2 Dm
/-- the blocks of a row and of its data -/
def OwnT (v : Value) (Ds : List Value) (k : Nat) : Prop := v.ownBlock = some k ∨ ∃ D ∈ Ds, D.ownBlock = some k
theorem ownT_nil {k : Nat} : ¬ OwnT (.slice none 0 0) [] k := by
  rintro (h | ⟨D, h, _⟩)
  · cases h
  · cases h
def MergePostW (w : World) (base p : Nat) (i t : Int) (v : Value) (Ds : List Value) (R : Nat × Int × List Ent × List Ent) (e : Ending) (w' : World) : Prop :=
  ∃ M v' Ds' Dm, e = .returned (.tuple #[.int .i64 R.2.1, M, errV R.1]) ∧ w.grownBy w' (some p) ∧ TO w' base p i t v' R.2.2.1 Ds' ∧ OE w' w.heap.size M R.2.2.2 Dm ∧ (∀ k, OwnT v' Ds' k → OwnT v Ds k ∨ w.heap.size ≤ k) ∧ (∀ k, OwnT M Dm k → ¬ OwnT v' Ds' k)
theorem MergePostW.weak {w : World} {base p : Nat} {i t : Int} {v : Value} {Ds : List Value} {R : Nat × Int × List Ent × List Ent} {e : Ending} {w' : World} (h : MergePostW w base p i t v Ds R e w') : MergePost w base p i t R e w' := by
  obtain ⟨M, v', Ds', Dm, h1, h2, h3, h4, _⟩ := h
  exact ⟨M, v', Ds', Dm, h1, h2, h3, h4⟩
theorem below_of_drew {w w' : World} {m : Nat} (h : Below (w.drewN m).heap.size (w.drewN m) w') : Below w.heap.size w w' := ⟨h.os, h.tape, h.output, h.size, h.block⟩
theorem OE.head {w : World} {base : Nat} {v : Value} {es : List Ent} {Ds : List Value} (h : OE w base v es Ds) (h0 : 0 < es.length) : ∃ g c, v = .slice (some ⟨g, 0, none⟩) es.length c ∧ RE w (some ⟨g, 0, none⟩) es Ds ∧ es.length ≤ c ∧ base ≤ g ∧ g < w.heap.size := by
  obtain ⟨g, cap, hv, h1, h2, h3⟩ := own_head h.2.1 h0
  obtain ⟨A, c, hv2, hr, h4, -⟩ := h.re
  rw [hv2] at hv
  cases hv
  exact ⟨g, _, hv2, hr, h4, h2, h3⟩
theorem below_grown {w w' : World} (h : Below w.heap.size w w') (r : Option Nat) : w.grownBy w' r := ⟨h.os, h.tape, h.output, h.size, fun k hk _ => h.block k hk⟩

set_option maxRecDepth 100000 in
set_option maxHeartbeats 1000000 in
theorem merge_bad (base p : Nat) (i t : Int) (v : Value) (es : List Ent) (Ds : List Value) (A : Option Addr) (len ca : Nat) (l : List Ent) (Dl : List Value) (prev term : Int) (w : World) (h : TO w base p i t v es Ds)
    (hrl : RE w A l Dl) (hl : l.length = len) (hn : len ≤ 10000000000000) (h0 : 0 ≤ i) (h1 : i ≤ 10000000000000) (h2 : es.length ≤ 10000000000000) (hok : okNew prev term l = false) :
    Calls Tryd.prog 12 #[.pointer (some ⟨p, 0, none⟩), .int .i64 prev, .int .i64 term, .slice A len ca] w (MergePostW w base p i t v Ds (1, 0, es, [])) := by
  by_cases hi : prev < 0 ∨ term < 0
  · have hm : decide (min prev term < 0) = true := decide_eq_true (by omega)
    go_enter Tryd.func12, Tryd.ntmps12
    go_wp2_with fail
    all_goals
      go_ret3
      have b := below_alloc w (.cells #[.pointer (some ⟨p, 0, none⟩)] 24)
      exact ⟨_, v, Ds, [], rfl, below_grown b _, h.below b, OE.nil _ _, fun k h => .inl h, fun k h => absurd h ownT_nil⟩
  · have hi1 : 0 ≤ prev := by omega
    have hi2 : 0 ≤ term := by omega
    have hm : decide (min prev term < 0) = false := decide_eq_false (by omega)
    by_cases hx : 1099511627776 < prev
    · have hx1 := decide_eq_true hx
      go_enter Tryd.func12, Tryd.ntmps12
      go_wp2_with fail
      all_goals
        go_ret3
        have b := below_alloc w (.cells #[.pointer (some ⟨p, 0, none⟩)] 24)
        exact ⟨_, v, Ds, [], rfl, below_grown b _, h.below b, OE.nil _ _, fun k h => .inl h, fun k h => absurd h ownT_nil⟩
    · have hx1 := decide_eq_false hx
      have hf : follows prev term l = false := by
        simp only [okNew, Bool.and_eq_false_iff, decide_eq_false_iff_not] at hok
        rcases hok with h | h
        · omega
        · exact h
      have b := below_alloc w (.cells #[.pointer (some ⟨p, 0, none⟩)] 24)
      have HF := Lib.hid (follows_any A len ca l Dl prev term _ (hrl.below b) hl hi1 (by omega) hn)
      rw [hf] at HF
      clear hf hok hrl
      have HL := Lib.hid hl
      clear hl
      go_enter Tryd.func12, Tryd.ntmps12
      go_wp2_with (refine HF.out.mono ?_; rintro e w1 ⟨rfl, b1⟩)
      all_goals
        go_ret3
        have b2 := below_then b b.size b1
        exact ⟨_, v, Ds, [], rfl, below_grown b2 _, h.below b2, OE.nil _ _, fun k h => .inl h, fun k h => absurd h ownT_nil⟩

set_option maxRecDepth 100000 in
set_option maxHeartbeats 1000000 in
theorem merge_far (base p : Nat) (i t : Int) (v : Value) (es : List Ent) (Ds : List Value) (A : Option Addr) (len ca : Nat) (l : List Ent) (Dl : List Value) (prev term : Int) (w : World) (h : TO w base p i t v es Ds)
    (hrl : RE w A l Dl) (hl : l.length = len) (hn : len ≤ 10000000000000) (h0 : 0 ≤ i) (h1 : i ≤ 10000000000000) (h2 : es.length ≤ 10000000000000) (hok : okNew prev term l = true) (hfar : i + es.length < prev ∨ (prev ≤ i + es.length ∧ prev + len < i)) :
    Calls Tryd.prog 12 #[.pointer (some ⟨p, 0, none⟩), .int .i64 prev, .int .i64 term, .slice A len ca] w (MergePostW w base p i t v Ds (if i + es.length < prev then (92, 0, es, []) else (0, prev + len, es, []))) := by
  have hok2 := hok
  simp only [okNew, Bool.and_eq_true, decide_eq_true_eq] at hok2
  obtain ⟨⟨hi1, hi2, hx⟩, hf⟩ := hok2
  have hm : decide (min prev term < 0) = false := decide_eq_false (by omega)
  have hx1 : decide (1099511627776 < prev) = false := decide_eq_false (by omega)
  have b := below_alloc w (.cells #[.pointer (some ⟨p, 0, none⟩)] 24)
  have hq : (w.alloc (.cells #[.pointer (some ⟨p, 0, none⟩)] 24)).cell? ⟨w.heap.size, 0, none⟩ = some (.pointer (some ⟨p, 0, none⟩)) := by
    simp only [World.cell?, heap_alloc_new, Option.isSome_none, Bool.false_eq_true, ↓reduceIte]; rfl
  have HF := Lib.hid (follows_any A len ca l Dl prev term _ (hrl.below b) hl hi1 (by omega) hn)
  rw [hf] at HF
  obtain ⟨L, c, hv, hre, -⟩ := h.2.2.re
  subst hv
  have HE := Lib.hid (fun w1 (b1 : Below w.heap.size w w1) m => end_any p i t L es.length c (w1.drewN m) ((h.below b1).tr.drewN (m := m)) h0 h1 h2)
  have HT := Lib.hid h
  have hl0 : (0 : Int) ≤ (len : Int) := by omega
  have hl1 : (len : Int) ≤ 10000000000000 := by omega
  clear hf hok hrl
  have HL := Lib.hid hl
  clear hl h hre
  by_cases hfar1 : i + es.length < prev
  · rw [if_pos hfar1]
    clear hfar
    go_enter Tryd.func12, Tryd.ntmps12
    go_wp2_with (go_at_call 31; refine HF.out.mono ?_; rintro e w1 ⟨rfl, b1⟩; have hq1 := below_cell b1 hq)
    all_goals
      refine (HE.out w1 (below_then b b.size b1) 0).mono ?_
      rintro e w2 ⟨rfl, m, rfl⟩
      go_wp2_with fail
      go_ret3
      have b2 := below_draws (below_then b b.size b1) m
      exact ⟨_, _, Ds, [], rfl, below_grown b2 _, HT.out.below b2, OE.nil _ _, fun k h => .inl h, fun k h => absurd h ownT_nil⟩
  · rw [if_neg hfar1]
    have hfar2 : prev + len < i := by omega
    clear hfar
    go_enter Tryd.func12, Tryd.ntmps12
    go_wp2_with (go_at_call 31; refine HF.out.mono ?_; rintro e w1 ⟨rfl, b1⟩; have hq1 := below_cell b1 hq; have hp1 := below_cell (below_then b b.size b1) HT.out.tr.1)
    all_goals
      refine (HE.out w1 (below_then b b.size b1) 0).mono ?_
      rintro e w2 ⟨rfl, m, rfl⟩
      go_wp2_with fail
      go_ret3
      have b2 := below_draws (below_then b b.size b1) m
      exact ⟨_, _, Ds, [], rfl, below_grown b2 _, HT.out.below b2, OE.nil _ _, fun k h => .inl h, fun k h => absurd h ownT_nil⟩

theorem cell_block {w w' : World} {a : Addr} (h : w'.heap[a.block]? = w.heap[a.block]?) : w'.cell? a = w.cell? a := World.cell?_of_block (w := w) h
/-- what a store into the trail's block behind new blocks leaves -/
theorem merge_put {w w5 w6 : World} {p : Nat} {u : Value} (b : Below w.heap.size w w5) (hg : w5.grownBy w6 none) : w.grownBy (w6.setCell ⟨p, 2, none⟩ u) (some p) :=
  ⟨hg.os.trans b.os, hg.tape.trans b.tape, hg.output.trans b.output, by rw [World.size_setCell]; exact Nat.le_trans b.size hg.size, fun k hk hkp => by
    rw [heap_setCell_other _ _ _ _ (by simpa using hkp), hg.block k (by have := b.size; omega) (by simp), b.block k hk]⟩
theorem merge_frz {w w5 w6 : World} {base p : Nat} {i t : Int} {v : Value} {es : List Ent} {Ds : List Value} (hT : TO w base p i t v es Ds) (b : Below w.heap.size w w5) (hg : w5.grownBy w6 none) : w6.frozen? ⟨p, 2, none⟩ = false := by
  have hp := hT.lt
  have : w6.heap[p]? = some (.cells #[.int .i64 i, .int .i64 t, v] 34 (0, 0)) := by
    rw [hg.block p (by have := b.size; omega) (by simp), b.block p hp]; exact hT.2.1
  simp [World.frozen?, this]
theorem below_of_drew1 {w w' : World} (h : Below w.drew.heap.size w.drew w') : Below w.heap.size w w' := ⟨h.os, h.tape, h.output, h.size, h.block⟩

/-- what reads as entries, or as bytes, lies in other blocks than a trail's own -/
theorem RB.grown {w w' : World} {A : Option Addr} {bs : List UInt8} {base p : Nat} {i t : Int} {v : Value} {es : List Ent} {Ds : List Value} (h : RB w A bs) (hT : TO w base p i t v es Ds) (hg : w.grownBy w' (some p)) : RB w' A bs := by
  refine h.step fun a ha h0 => hg.block _ (h.lt ha h0) ?_
  intro e
  obtain ⟨b, o, hA, hb, hc⟩ := h.addr h0
  rw [ha] at hA
  cases hA
  injection e with e
  simp only at e
  subst e
  have hc0 := hc 0 h0
  obtain ⟨L, c, rfl, -⟩ := hT.2.2.re
  simp only [World.cell?, hT.2.1, Option.isSome_none, Bool.false_eq_true, ↓reduceIte, Nat.add_zero] at hc0
  match o, hc0 with
  | 0, hc0 => simp at hc0
  | 1, hc0 => simp at hc0
  | 2, hc0 => simp at hc0
  | o + 3, hc0 => simp at hc0
theorem RE.grown {w w' : World} {A : Option Addr} {l : List Ent} {Dl : List Value} {base p : Nat} {i t : Int} {v : Value} {es : List Ent} {Ds : List Value} (h : RE w A l Dl) (hT : TO w base p i t v es Ds) (hg : w.grownBy w' (some p)) : RE w' A l Dl := by
  by_cases h0 : l.length = 0
  · obtain rfl := List.eq_nil_of_length_eq_zero h0
    obtain rfl : Dl = [] := List.eq_nil_of_length_eq_zero (by rw [h.1]; rfl)
    exact RE.nil _ _
  · obtain ⟨b, o, rfl, hb, hc⟩ := h.addr (by omega)
    have hbp : b ≠ p := by
      intro e
      subst e
      obtain ⟨-, -, -, h3⟩ := ecells_get h.1 0 (by omega) (by rw [h.1]; omega)
      have hc3 := hc _ _ h3
      simp [World.cell?, hT.2.1] at hc3
    refine ⟨h.1, fun j u hj => ⟨_, rfl, ?_⟩, fun j h1 h2 => ?_⟩
    · rw [Addr.add_lit, cell_block (w := w) (hg.block b hb (by simpa using hbp))]
      exact hc j u hj
    · obtain ⟨B, c, e1, e2, e3⟩ := h.2.2 j h1 h2
      exact ⟨B, c, e1, e2.grown hT hg, e3⟩

/-- the end of a merge that changes something, out of the walk's steps -/
theorem merge_fin {w w4 w5 w6 w7 : World} {base p : Nat} {i t : Int} {v vM v' M : Value} {es l2 : List Ent} {Ds Dm Dm2 : List Value} {n' : Nat} {N : Int} {R : Nat × Int × List Ent × List Ent} (hT : TO w base p i t v es Ds) (hb : base ≤ w.heap.size) (b4 : Below w.heap.size w w4) (om : OE w5 w4.heap.size vM l2 Dm) (b5 : Below w4.heap.size w4 w5)
    (own6 : w6.ownsRow w5.heap.size 44 4 v' (n' + l2.length) (ecells (es.take n') (Ds.take n') ++ ecells l2 Dm)) (hg6 : w5.grownBy w6 none) (hn : n' ≤ es.length) (b7 : Below (w6.setCell ⟨p, 2, none⟩ v').heap.size (w6.setCell ⟨p, 2, none⟩ v') w7)
    (om2 : OE w7 (w6.setCell ⟨p, 2, none⟩ v').heap.size M l2 Dm2) (hR : R = (0, N, es.take n' ++ l2, l2)) : MergePostW w base p i t v Ds R (.returned (.tuple #[.int .i64 N, M, errV 0])) w7 := by
  subst hR
  have hp : p < w.heap.size := hT.lt
  have b5' := below_then b4 b4.size b5
  have s6 : w.heap.size ≤ w6.heap.size := Nat.le_trans b5'.size hg6.size
  have hs7 : (w6.setCell ⟨p, 2, none⟩ v').heap.size = w6.heap.size := World.size_setCell _ _ _
  have hD : (Ds.take n').length = (es.take n').length := by simp [hT.2.2.1]
  -- blocks below the old size, other than p's
  have hold : ∀ k, k < w.heap.size → k ≠ p → w7.heap[k]? = w.heap[k]? := fun k hk hkp => by
    rw [b7.block k (by rw [hs7]; omega), heap_setCell_other _ _ _ _ (by simpa using hkp), hg6.block k (by have := b5'.size; omega) (by simp), b5'.block k hk]
  have h67 : ∀ k, k < w6.heap.size → k ≠ p → w7.heap[k]? = w6.heap[k]? := fun k hk hkp => by
    rw [b7.block k (by rw [hs7]; omega), heap_setCell_other _ _ _ _ (by simpa using hkp)]
  have hp6 : w6.heap[p]? = some (.cells #[.int .i64 i, .int .i64 t, v] 34 (0, 0)) := by
    rw [hg6.block p (by have := b5'.size; omega) (by simp), b5'.block p hp]; exact hT.2.1
  refine ⟨M, v', Ds.take n' ++ Dm, Dm2, rfl, ⟨b7.os.trans (hg6.os.trans b5'.os), b7.tape.trans (hg6.tape.trans b5'.tape), b7.output.trans (hg6.output.trans b5'.output), by have := b7.size; omega, fun k hk hkp => hold k hk (fun e => hkp (by rw [e]))⟩, ⟨hT.1, ?_, ⟨?_, ?_, ?_⟩⟩, ?_, ?_, ?_⟩
  · rw [b7.block p (by rw [hs7]; omega), heap_setCell_same _ _ _ _ _ _ hp6]
    rfl
  · simp [hT.2.2.1, om.1]
  · rw [ecells_append _ _ hD]
    have e : (es.take n' ++ l2).length = n' + l2.length := by simp [List.length_take]; omega
    rw [e]
    refine own_lower (own_step own6 fun k hk => h67 k (own6.lt k hk).2 ?_) (by have := b5'.size; omega)
    have := (own6.lt k hk).1
    have := b5'.size
    omega
  · intro j h1 h2
    by_cases hj : j < n'
    · have e1 : (es.take n' ++ l2)[j] = es[j]'(by omega) := by
        rw [List.getElem_append_left (by rw [List.length_take]; omega), List.getElem_take]
      have e2 : (Ds.take n' ++ Dm)[j] = Ds[j]'(by rw [hT.2.2.1]; omega) := by
        rw [List.getElem_append_left (by rw [List.length_take, hT.2.2.1]; omega), List.getElem_take]
      rw [e1, e2]
      have o := hT.2.2.2.2 j (by omega) (by rw [hT.2.2.1]; omega)
      refine ⟨own_step o.1 fun k hk => hold k (o.1.lt k hk).2 ?_, o.2⟩
      intro e
      subst e
      rcases o.1.2 with ⟨e, _⟩ | ⟨g, cap, cur, e, _, hg, _⟩
      · rw [e] at hk; simp [Value.ownBlock] at hk
      · rw [e] at hk
        simp [Value.ownBlock] at hk
        subst hk
        rw [hT.2.1] at hg
        injection hg with hg
        injection hg with _ ht
        exact absurd ht (by decide)
    · have hl1 : (es.take n').length = n' := by rw [List.length_take]; omega
      have hl2 : (Ds.take n').length = n' := by rw [hD]; exact hl1
      have h1' : j - n' < l2.length := by rw [List.length_append, hl1] at h1; omega
      have h2' : j - n' < Dm.length := by rw [om.1]; exact h1'
      have e1 : (es.take n' ++ l2)[j] = l2[j - n'] := by
        rw [List.getElem_append_right (by omega)]; simp only [hl1]
      have e2 : (Ds.take n' ++ Dm)[j] = Dm[j - n'] := by
        rw [List.getElem_append_right (by omega)]; simp only [hl2]
      rw [e1, e2]
      have o := om.2.2 _ h1' h2'
      refine ⟨own_lower (own_step o.1 fun k hk => ?_) (by have := b4.size; omega), o.2⟩
      have hk2 := o.1.lt k hk
      rw [h67 k (by have := hg6.size; omega) (by have := b4.size; omega), hg6.block k hk2.2 (by simp)]
  · refine ⟨om2.1, own_lower om2.2.1 (by omega), fun j h1 h2 => ⟨own_lower (om2.2.2 j h1 h2).1 (by omega), (om2.2.2 j h1 h2).2⟩⟩
  · rintro k (h | ⟨D, hD', h⟩)
    · exact .inr (by have := (own6.lt k h).1; have := b5'.size; omega)
    · rcases List.mem_append.1 hD' with hD' | hD'
      · exact .inl (.inr ⟨D, List.mem_of_mem_take hD', h⟩)
      · exact .inr (by have := (om.dlt D hD' k h).1; have := b4.size; omega)
  · intro k h1 h2
    have hk : w6.heap.size ≤ k := by
      rcases h1 with h | ⟨D, hD', h⟩
      · have := (om2.2.1.lt k h).1; omega
      · have := (om2.dlt D hD' k h).1; omega
    rcases h2 with h | ⟨D, hD', h⟩
    · have := (own6.lt k h).2; omega
    · rcases List.mem_append.1 hD' with hD' | hD'
      · have := (hT.2.2.dlt D (List.mem_of_mem_take hD') k h).2; omega
      · have := (om.dlt D hD' k h).2; have := hg6.size; omega
end Go.Proofs.YtkjpfjgaabbggaaDoor
