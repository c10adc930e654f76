/- A trail and the document's, side by side: what acts keep (plain laws). -/
import Derived.Test.YtkjpfjgaabbggaaDoorUMerge
import Derived.Test.YtkjpfjgaabbggaaDoorUAdd
import Derived.Test.YtkjpfjgaabbggaaDoorUAddT
set_option linter.unusedVariables false
set_option linter.unusedSimpArgs false
namespace Go.Proofs.YtkjpfjgaabbggaaDoor
open Go.RowKit

theorem least (P : Nat → Prop) (h : ∃ j, P j) : ∃ j, P j ∧ ∀ k, k < j → ¬ P k := by
  obtain ⟨n, hn⟩ := h
  induction n using Nat.strongRecOn with
  | ind n ih =>
    by_cases h : ∃ k, k < n ∧ P k
    · obtain ⟨k, hk, hp⟩ := h
      exact ih k hk hp
    · exact ⟨n, hn, fun k hk hp => h ⟨k, hk, hp⟩⟩
theorem follows_append : ∀ {A B : List Ent} {i t : Int}, follows i t A = true → follows (i + A.length) (endT t A) B = true → follows i t (A ++ B) = true
  | [], B, i, t, _, h => by simpa [endT] using h
  | e :: A, B, i, t, h1, h2 => by
    obtain ⟨a1, a2, a3, a4⟩ := follows_cons h1
    simp only [List.cons_append, follows]
    rw [if_pos ⟨a1, a2, a3⟩]
    refine follows_append a4 ?_
    simp only [endT, List.length_cons] at h2
    rw [show i + 1 + (A.length : Int) = i + ((A.length + 1 : Nat) : Int) by omega]
    exact h2
theorem follows_take : ∀ {A : List Ent} {i t : Int} (n : Nat), follows i t A = true → follows i t (A.take n) = true
  | A, i, t, 0, _ => by simp [follows]
  | [], i, t, n + 1, _ => by simp [follows]
  | e :: A, i, t, n + 1, h => by
    obtain ⟨a1, a2, a3, a4⟩ := follows_cons h
    simp only [List.take_succ_cons, follows]
    rw [if_pos ⟨a1, a2, a3⟩]
    exact follows_take n a4
theorem endT_take (t : Int) (es : List Ent) (a : Nat) (h : a ≤ es.length) : endT t (es.take a) = termN t es a := by
  have h1 := termN_end (es.take a) t
  rw [← h1, List.length_take, Nat.min_eq_left h]
  have := termN_prefix t es [] a a h (Nat.le_refl _)
  rwa [List.append_nil] at this
theorem follows_snoc {es : List Ent} {i t x k : Int} {d : List UInt8} (h : follows i t es = true) (hx : endT t es ≤ x) (hk : 0 ≤ k) : follows i t (es ++ [⟨i + es.length + 1, x, k, d⟩]) = true := by
  refine follows_append h ?_
  simp only [follows]
  rw [if_pos ⟨trivial, hx, hk⟩]
theorem merge_keeps {i t : Int} {es : List Ent} {prev term : Int} {l : List Ent} (hf : follows i t es = true) : follows i t (mergeT i t es prev term l).2.2.1 = true ∧ ((i + ((mergeT i t es prev term l).2.2.1.length : Nat) : Int) ≤ i + es.length ∨ (i + ((mergeT i t es prev term l).2.2.1.length : Nat) : Int) ≤ 1099511627776 + l.length) := by
  by_cases hok : okNew prev term l = true
  rotate_left
  · have e : mergeT i t es prev term l = (1, 0, es, []) := by unfold mergeT; rw [if_pos (by simpa using hok)]
    rw [e]; exact ⟨hf, .inl (Int.le_refl _)⟩
  by_cases h1 : prev ≤ i + es.length
  rotate_left
  · rw [mergeT_far hok (by omega)]; exact ⟨hf, .inl (Int.le_refl _)⟩
  by_cases hM : prev + l.length < i ∨ termT i t es (max prev i) = termN term l (i - prev).toNat
  rotate_left
  · rw [mergeT_differs hok h1 (by omega) (P := max prev i) rfl (T := termN term l (i - prev).toNat) rfl (l' := l.drop (i - prev).toNat) rfl (fun e => hM (.inr e))]
    exact ⟨hf, .inl (Int.le_refl _)⟩
  obtain ⟨hp0, _, hpM, hfl⟩ := okNew_follows hok
  by_cases hn : ∃ j, ∃ h : j < l.length, newAt i t es l[j]
  rotate_left
  · rw [merge_none hok h1 hM (fun j h hh => hn ⟨j, h, hh⟩)]
    exact ⟨hf, .inl (Int.le_refl _)⟩
  obtain ⟨j, ⟨hj, hnj⟩, hlt⟩ := least _ hn
  obtain ⟨a, ha, haN, hm⟩ := merge_found hok h1 hM j hj hnj (fun j' h hh hc => hlt j' hh ⟨h, hc⟩)
  have hmd := merged_of hm
  have hnew := hnj.1
  rw [follows_get hfl j hj] at hnew
  rw [hm]
  have hln : (es.take a ++ l.drop j).length = a + (l.length - j) := by rw [List.length_append, List.length_take, List.length_drop, Nat.min_eq_left haN]
  refine ⟨?_, .inr (by simp only; rw [hln]; omega)⟩
  simp only
  refine follows_append (follows_take a hf) ?_
  rw [endT_take _ _ _ haN, List.length_take, Nat.min_eq_left haN]
  have h3 := follows_drop j (by omega) hfl
  have hag := hmd.agree (by omega) (j - (i - prev).toNat) (by rw [List.length_drop]; omega)
  rw [termN_drop _ _ _ _ (by omega)] at hag
  have e1 : max prev i + ((j - (i - prev).toNat : Nat) : Int) = i + (a : Int) := by omega
  rw [e1, (termT_in i t _ a (by rw [hln]; omega)).1, termN_prefix t es _ a a haN (Nat.le_refl _), show (i - prev).toNat + (j - (i - prev).toNat) = j by omega] at hag
  rw [hag.2, show i + (a : Int) = prev + j by omega]
  exact h3
theorem compact_keeps {i t : Int} {es : List Ent} {x : Int} (hf : follows i t es = true) (h0 : 0 ≤ i) : follows (compactT i t es x).2.1 (compactT i t es x).2.2.1 (compactT i t es x).2.2.2 = true ∧ 0 ≤ (compactT i t es x).2.1 ∧ ((compactT i t es x).2.1 + ((compactT i t es x).2.2.2.length : Nat) : Int) = i + es.length := by
  unfold compactT
  split
  · rename_i h
    have h2 := of_decide_eq_true h
    obtain ⟨n, rfl⟩ : ∃ n : Nat, x = i + n := ⟨(x - i).toNat, by omega⟩
    simp only [show (i + (n : Int) - i).toNat = n by omega]
    have h3 := follows_drop n (by omega) hf
    rw [(termT_in i t es n (by omega)).1]
    exact ⟨h3, by omega, by rw [List.length_drop]; omega⟩
  · exact ⟨hf, h0, rfl⟩
/-- the trail and the document's hold the same -/
structure Duo (w : World) (base p q : Nat) (i t : Int) (v u : Value) (es : List Ent) (Ds Fs : List Value) : Prop where
  tt : TO w base p i t v es Ds
  rt : RTO w base q i t u es Fs
  fo : follows i t es = true
  i0 : 0 ≤ i
theorem Duo.below {w w' : World} {base p q : Nat} {i t : Int} {v u : Value} {es : List Ent} {Ds Fs : List Value} (h : Duo w base p q i t v u es Ds Fs) (b : Below w.heap.size w w') : Duo w' base p q i t v u es Ds Fs := ⟨h.tt.below b, h.rt.below b, h.fo, h.i0⟩
theorem OE.grow {w w' : World} {base p : Nat} {v : Value} {es : List Ent} {Ds : List Value} {cs : Array Value} {T : TypeId} {fr : Nat × Nat} (h : OE w base v es Ds) (hp : w.heap[p]? = some (.cells cs T fr)) (h1 : 44 ≠ T) (h2 : 5 ≠ T) (g : w.grownBy w' (some p)) : OE w' base v es Ds := by
  refine h.step (fun k hk => g.block k (h.2.1.lt k hk).2 (fun e => own_ne_cells h.2.1 hp h1 (by rw [hk]; exact e))) (fun D hD k hk => g.block k (h.dlt D hD k hk).2 (fun e => ?_))
  obtain ⟨j, hj, rfl⟩ := List.getElem_of_mem hD
  exact own_ne_cells (h.2.2 j (by rw [← h.1]; exact hj) hj).1 hp h2 (by rw [hk]; exact e)
theorem RTO.growp {w w' : World} {base p q b2 : Nat} {i t i2 t2 : Int} {v u : Value} {es fs : List Ent} {Ds Fs : List Value} (h : RTO w base q i t u es Fs) (hp : TO w b2 p i2 t2 v fs Ds) (g : w.grownBy w' (some p)) : RTO w' base q i t u es Fs :=
  ⟨h.1, (g.block q h.lt (fun e => by
    have e : q = p := Option.some.inj e
    subst e
    have h1 := h.2.1
    rw [hp.2.1] at h1
    injection h1 with h2
    injection h2 with _ h3
    exact absurd h3 (by decide))).trans h.2.1, h.2.2.grow hp.2.1 (by decide) (by decide) g⟩
theorem TO.growq {w w' : World} {base p q b2 : Nat} {i t i2 t2 : Int} {v u : Value} {es fs : List Ent} {Ds Fs : List Value} (h : TO w base p i t v es Ds) (hq : RTO w b2 q i2 t2 u fs Fs) (g : w.grownBy w' (some q)) : TO w' base p i t v es Ds :=
  ⟨h.1, (g.block p h.lt (fun e => by
    have e : p = q := Option.some.inj e
    subst e
    have h1 := h.2.1
    rw [hq.2.1] at h1
    injection h1 with h2
    injection h2 with _ h3
    exact absurd h3 (by decide))).trans h.2.1, h.2.2.grow hq.2.1 (by decide) (by decide) g⟩
/-- the document's trail stands behind the trail's Add -/
theorem RTO.added {w w' : World} {base p q : Nat} {i t : Int} {v u : Value} {es : List Ent} {Ds Fs : List Value} (h : RTO w base q i t u es Fs) (hp : TO w base p i t v es Ds) (f : Frm (fun k => k = p ∨ v.ownBlock = some k) w w') (kr : KeepRow w w' es.length) : RTO w' base q i t u es Fs := by
  have hqp : q ≠ p := fun e => by
    subst e
    have h1 := h.2.1
    rw [hp.2.1] at h1
    injection h1 with h2
    injection h2 with _ h3
    exact absurd h3 (by decide)
  obtain ⟨UA, uc, hu, -⟩ := h.2.2.re
  subst hu
  refine ⟨h.1, (f.block q h.lt fun e => ?_).trans h.2.1, h.2.2.1, kr _ _ _ _ _ (Nat.le_refl _) h.2.2.2.1, fun k h1 h2 => ?_⟩
  · rcases e with e | e
    · exact hqp e
    · exact own_ne_cells hp.2.2.2.1 h.2.1 (by decide) e
  · have o := h.2.2.2.2 k h1 h2
    refine ⟨own_step o.1 fun z hz => f.block z (o.1.lt z hz).2 fun e => ?_, o.2⟩
    rcases e with e | e
    · exact own_ne_cells o.1 hp.2.1 (by decide) (by rw [hz, e])
    · exact row_types o.1 hp.2.2.2.1 (by decide) z hz e
end Go.Proofs.YtkjpfjgaabbggaaDoor
