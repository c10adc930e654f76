/- Logs of terms, and trails that are pieces of them, in plain words: TrailMatches' law. -/
import Derived.Test.YtkjpfjgaabbggaaDoorTMerged
set_option linter.unusedVariables false
set_option linter.unusedSimpArgs false
namespace Go.Proofs.YtkjpfjgaabbggaaDoor
open Go.RowKit

/-- logs: each is a row behind nothing; where two have an entry of one term at one place they are the same up to it; terms are at most N -/
structure Logs (N : Nat) (ls : List (List Ent)) : Prop where
  row : ∀ l ∈ ls, follows 0 0 l = true
  same : ∀ l ∈ ls, ∀ l' ∈ ls, ∀ j (h : j < l.length) (h' : j < l'.length), l[j].t = l'[j].t → l.take (j + 1) = l'.take (j + 1)
  terms : ∀ l ∈ ls, ∀ e ∈ l, e.t ≤ N
theorem Logs.start : Logs 0 [[]] :=
  ⟨fun l h => by simp at h; subst h; rfl, fun l h l' h' j hj => by simp at h; subst h; simp at hj, fun l h e he => by simp at h; subst h; simp at he⟩

/-- an entry of the one log of a term -/
def newE (b : Int → Nat) (x : Nat) (T : Nat) : Ent := ⟨(x : Int) + 1, T, 0, [UInt8.ofNat (b ((x : Int) + 1)), UInt8.ofNat (b T)]⟩

/-- a piece of a log: behind i, of a term, these entries -/
def Piece (ls : List (List Ent)) (i : Nat) (t : Int) (es : List Ent) : Prop :=
  ∃ l ∈ ls, i + es.length ≤ l.length ∧ t = termN 0 l i ∧ es = (l.drop i).take es.length
theorem Piece.start {ls : List (List Ent)} {l : List Ent} (h : l ∈ ls) : Piece ls 0 0 [] := ⟨l, h, by simp, rfl, by simp⟩
theorem Piece.more {ls ms : List (List Ent)} {i : Nat} {t : Int} {es : List Ent} (h : Piece ls i t es) (hs : ∀ l ∈ ls, l ∈ ms) : Piece ms i t es := by
  obtain ⟨l, hl, r⟩ := h
  exact ⟨l, hs l hl, r⟩
theorem piece_term {l : List Ent} {i : Nat} {es : List Ent} (h1 : i + es.length ≤ l.length) (h2 : es = (l.drop i).take es.length) (q : Nat) (hq : q ≤ es.length) : termN (termN 0 l i) es q = termN 0 l (i + q) := by
  cases q with
  | zero => rfl
  | succ q =>
    rw [← Nat.add_assoc]
    simp only [termN]
    have : es[q]? = l[i + q]? := by
      rw [h2, List.getElem?_take_of_lt (by omega), List.getElem?_drop]
    rw [this]
/-- logs that have a term at one place in common are the same up to it -/
theorem Logs.upto {N : Nat} {ls : List (List Ent)} (h : Logs N ls) {l l' : List Ent} (hl : l ∈ ls) (hl' : l' ∈ ls) (q : Nat) (h1 : q ≤ l.length) (h2 : q ≤ l'.length) (ht : termN 0 l q = termN 0 l' q) : l.take q = l'.take q := by
  cases q with
  | zero => simp
  | succ q =>
    rw [termN_succ _ _ _ (by omega), termN_succ _ _ _ (by omega)] at ht
    exact h.same l hl l' hl' q (by omega) (by omega) ht
theorem termN_take (l : List Ent) (q i : Nat) (h : i ≤ q) : termN 0 (l.take q) i = termN 0 l i := by
  cases i with
  | zero => rfl
  | succ i => simp only [termN]; rw [List.getElem?_take_of_lt (by omega)]
theorem drop_take_upto {l l' : List Ent} {q : Nat} (h : l.take q = l'.take q) (i n : Nat) (hn : i + n ≤ q) : (l.drop i).take n = (l'.drop i).take n := by
  have : ∀ m : List Ent, (m.drop i).take n = ((m.take q).drop i).take n := fun m => by
    rw [List.drop_take, List.take_take, Nat.min_eq_left (by omega)]
  rw [this l, this l', h]

/-- the two forms of what a merge leaves -/
theorem merge_shape {i t : Int} {es : List Ent} {prev term : Int} {m : List Ent} {e : Nat} {n : Int} {es2 more : List Ent} (h : mergeT i t es prev term m = (e, n, es2, more)) :
    es2 = es ∨ ∃ (k n' : Nat), okNew prev term m = true ∧ i ≤ prev + m.length ∧ prev ≤ i + es.length ∧ (n' : Int) = max prev i + k - i ∧ n' ≤ es.length ∧ k < (m.drop (i - prev).toNat).length ∧ es2 = es.take n' ++ (m.drop (i - prev).toNat).drop k ∧
      termT i t es (max prev i + k) = termN term m ((i - prev).toNat + k) := by
  unfold mergeT at h
  by_cases h1 : okNew prev term m = false
  · rw [if_pos h1] at h; cases h; exact .inl rfl
  rw [if_neg h1] at h
  by_cases h2 : i + es.length < prev
  · rw [if_pos h2] at h; cases h; exact .inl rfl
  rw [if_neg h2] at h
  have hok : okNew prev term m = true := by cases hc : okNew prev term m with | true => rfl | false => exact absurd hc h1
  by_cases h3 : prev + m.length < i
  · rw [if_pos h3] at h; cases h; exact .inl rfl
  rw [if_neg h3] at h
  by_cases h4n : ¬ termT i t es (max prev i) = termN term m (i - prev).toNat
  · rw [if_neg h4n] at h; cases h; exact .inl rfl
  have h4 := Decidable.not_not.1 h4n
  rw [if_pos h4] at h
  by_cases h5n : ¬ (m.drop (i - prev).toNat).findIdx (isNew i t es) < (m.drop (i - prev).toNat).length
  · rw [if_neg h5n] at h; cases h; exact .inl rfl
  have h5 := Decidable.not_not.1 h5n
  rw [if_pos h5] at h
  have hf := hok
  simp only [okNew, Bool.and_eq_true, decide_eq_true_eq] at hf
  have hf := hf.2
  have hsm : (i - prev).toNat ≤ m.length := by omega
  have hfl : follows (max prev i) (termN term m (i - prev).toNat) (m.drop (i - prev).toNat) = true := by
    have := follows_drop (i - prev).toNat hsm hf
    rwa [show prev + ((i - prev).toNat : Int) = max prev i by omega] at this
  obtain ⟨k, hk⟩ : ∃ k, (m.drop (i - prev).toNat).findIdx (isNew i t es) = k := ⟨_, rfl⟩
  rw [hk] at h h5
  have hold : ∀ j (hj : j < k), isNew i t es ((m.drop (i - prev).toNat)[j]'(by omega)) = false := fun j hj => List.not_of_lt_findIdx (p := isNew i t es) (xs := m.drop (i - prev).toNat) (i := j) (by rw [hk]; exact hj)
  cases h
  have hkn : max prev i + k ≤ i + es.length ∧ termT i t es (max prev i + k) = termN term m ((i - prev).toNat + k) := by
    rw [← termN_drop _ _ _ _ hsm]
    cases k with
    | zero => exact ⟨by omega, by rw [show max prev i + ((0 : Nat) : Int) = max prev i by omega, h4]; rfl⟩
    | succ k' =>
      have h6 := notNew (hold k' (by omega))
      rw [follows_get hfl k' (by omega)] at h6
      rw [termN_succ _ _ _ (by omega), show max prev i + ((k' + 1 : Nat) : Int) = max prev i + 1 + k' by omega]
      exact ⟨by have := of_decide_eq_true h6.1; omega, h6.2⟩
  exact .inr ⟨k, (max prev i + (k : Int) - i).toNat, hok, by omega, by omega, by omega, by omega, h5, rfl, hkn.2⟩

/-- what a merge of a piece of a log leaves of a trail that is one -/
theorem merge_piece {N : Nat} {ls : List (List Ent)} (hL : Logs N ls) {i : Nat} {t : Int} {es : List Ent} (hp : Piece ls i t es) {l' : List Ent} (hl' : l' ∈ ls) {prev many : Nat} (hpr : prev ≤ l'.length) {m : List Ent} (hm : m = (l'.drop prev).take many)
    {e : Nat} {n : Int} {es2 more : List Ent} (hM : mergeT i t es prev (termN 0 l' prev) m = (e, n, es2, more)) : Piece ls i t es2 := by
  rcases merge_shape hM with rfl | ⟨k, n', hok, h1, h2, hn', hne, hk, rfl, hag⟩
  · exact hp
  obtain ⟨l, hl, g1, g2, g3⟩ := hp
  have hml : m.length = min many (l'.length - prev) := by rw [hm, List.length_take, List.length_drop]
  obtain ⟨s, hs⟩ : ∃ s, s = ((i : Int) - (prev : Int)).toNat := ⟨_, rfl⟩
  rw [← hs] at hk hag ⊢
  rw [List.length_drop] at hk
  obtain ⟨Q, hQ⟩ : ∃ Q : Nat, Q = i + n' := ⟨_, rfl⟩
  have hQ2 : Q = prev + s + k := by omega
  have hm2 : m = (l'.drop prev).take m.length := by
    apply List.ext_getElem?
    intro j
    rw [List.getElem?_take]
    by_cases hj : j < m.length
    · rw [if_pos hj]
      have := congrArg (fun x : List Ent => x[j]?) hm
      simp only [List.getElem?_take] at this
      rw [this, if_pos (by omega)]
    · rw [if_neg hj, List.getElem?_eq_none (by omega)]
  have t1 : termT i t es (max (prev : Int) i + k) = termN 0 l Q := by
    have hq := piece_term g1 g3 n' hne
    rw [← g2] at hq
    rw [← hQ] at hq
    rw [← hq]
    unfold termT
    rw [if_pos (show inT i es (max (prev : Int) i + k) = true from decide_eq_true (by omega)), show (max (prev : Int) i + (k : Int) - i).toNat = n' by omega]
  have t2 : termN (termN 0 l' prev) m (s + k) = termN 0 l' Q := by
    rw [piece_term (by omega) hm2 (s + k) (by omega), hQ2, Nat.add_assoc]
  have hup := hL.upto hl hl' Q (by omega) (by omega) (by rw [← t1, hag, t2])
  refine ⟨l', hl', ?_, ?_, ?_⟩
  · rw [List.length_append, List.length_take, List.length_drop, List.length_drop]; omega
  · rw [g2, ← termN_take l Q i (by omega), hup, termN_take _ _ _ (by omega)]
  · have hlen : (es.take n' ++ (m.drop s).drop k).length = n' + (m.length - s - k) := by rw [List.length_append, List.length_take, List.length_drop, List.length_drop]; omega
    rw [hlen, List.take_add, List.drop_drop]
    congr 1
    · have := congrArg (List.take n') g3
      rw [List.take_take, Nat.min_eq_left hne] at this
      rw [this, drop_take_upto hup i n' (by omega)]
    · obtain ⟨M, hMl⟩ : ∃ M, M = m.length := ⟨_, rfl⟩
      rw [← hMl]
      rw [← hMl] at hm2
      rw [hm2, List.drop_take, List.drop_drop, List.drop_drop]
      rw [show prev + (s + k) = i + n' by omega, Nat.sub_sub]
end Go.Proofs.YtkjpfjgaabbggaaDoor
