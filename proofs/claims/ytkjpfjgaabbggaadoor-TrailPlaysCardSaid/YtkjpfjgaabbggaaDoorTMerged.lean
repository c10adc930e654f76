/- What a merge leaves, in plain words: what was merged is there, and is not new again. -/
import Derived.Test.YtkjpfjgaabbggaaDoorTMerge
set_option linter.unusedVariables false
set_option linter.unusedSimpArgs false
namespace Go.Proofs.YtkjpfjgaabbggaaDoor
open Go.RowKit

theorem termN_prefix (t : Int) (es fs : List Ent) (n q : Nat) (hn : n ≤ es.length) (hq : q ≤ n) : termN t (es.take n ++ fs) q = termN t es q := by
  cases q with
  | zero => rfl
  | succ q =>
    simp only [termN]
    rw [List.getElem?_append_left (by rw [List.length_take]; omega), List.getElem?_take_of_lt (by omega)]
theorem termN_suffix (t : Int) (es fs : List Ent) (n j : Nat) (hn : n ≤ es.length) (hj : j < fs.length) : termN t (es.take n ++ fs) (n + j + 1) = fs[j].t := by
  simp only [termN]
  rw [List.getElem?_append_right (by rw [List.length_take]; omega)]
  have : n + j - (es.take n).length = j := by rw [List.length_take]; omega
  rw [this, List.getElem?_eq_getElem hj]
theorem termN_succ (t : Int) (l : List Ent) (j : Nat) (hj : j < l.length) : termN t l (j + 1) = l[j].t := by simp [termN, hj]
theorem termN_drop (t : Int) (l : List Ent) (s q : Nat) (hs : s ≤ l.length) : termN (termN t l s) (l.drop s) q = termN t l (s + q) := by
  cases q with
  | zero => rfl
  | succ q => rw [← Nat.add_assoc]; simp [termN]
theorem notNew {i t : Int} {es : List Ent} {e : Ent} (h : isNew i t es e = false) : inT i es e.i = true ∧ termT i t es e.i = e.t := by
  unfold isNew at h
  cases hc : inT i es e.i with
  | true => rw [hc] at h; simp at h; exact ⟨rfl, h⟩
  | false => rw [hc] at h; simp at h

/-- what a merge that is no error tells of -/
structure Merged (i t : Int) (es : List Ent) (prev term : Int) (m : List Ent) (n : Int) (es2 more : List Ent) : Prop where
  ok : okNew prev term m = true
  num : n = prev + m.length
  near : prev ≤ i + es2.length
  news : more = m.drop (m.length - more.length) ∧ more.length ≤ m.length
  agree : i ≤ prev + m.length → ∀ q, q ≤ (m.drop (i - prev).toNat).length → inT i es2 (max prev i + q) = true ∧ termT i t es2 (max prev i + q) = termN (termN term m (i - prev).toNat) (m.drop (i - prev).toNat) q
  same : more = [] → es2 = es
  size : es2.length ≤ es.length ∨ (es2.length : Int) ≤ max prev i - i + m.length

theorem merged_of {i t : Int} {es : List Ent} {prev term : Int} {m : List Ent} {n : Int} {es2 more : List Ent} (h : mergeT i t es prev term m = (0, n, es2, more)) : Merged i t es prev term m n es2 more := by
  unfold mergeT at h
  by_cases h1 : okNew prev term m = false
  · rw [if_pos h1] at h; cases h
  rw [if_neg h1] at h
  by_cases h2 : i + es.length < prev
  · rw [if_pos h2] at h; cases h
  rw [if_neg h2] at h
  have hok : okNew prev term m = true := by cases hc : okNew prev term m with | true => rfl | false => exact absurd hc h1
  by_cases h3 : prev + m.length < i
  · rw [if_pos h3] at h
    cases h
    exact ⟨hok, rfl, by omega, ⟨by simp, by simp⟩, fun hb => absurd hb (by omega), fun _ => rfl, .inl (Nat.le_refl _)⟩
  rw [if_neg h3] at h
  by_cases h4n : ¬ termT i t es (max prev i) = termN term m (i - prev).toNat
  · rw [if_neg h4n] at h; cases h
  have h4 := Decidable.not_not.1 h4n
  clear h4n
  rw [if_pos h4] at h
  have hf := hok
  simp only [okNew, Bool.and_eq_true, decide_eq_true_eq] at hf
  have hf := hf.2
  obtain ⟨s, hs⟩ : ∃ s, s = (i - prev).toNat := ⟨_, rfl⟩
  have hsm : s ≤ m.length := by omega
  have hfl : follows (max prev i) (termN term m s) (m.drop s) = true := by
    have := follows_drop s hsm hf
    rwa [show prev + (s : Int) = max prev i by omega] at this
  rw [← hs] at h h4
  obtain ⟨l, hl⟩ : ∃ l, l = m.drop s := ⟨_, rfl⟩
  obtain ⟨T, hT⟩ : ∃ T, T = termN term m s := ⟨_, rfl⟩
  obtain ⟨P, hP⟩ : ∃ P, P = max prev i := ⟨_, rfl⟩
  rw [← hl] at h hfl
  rw [← hT] at h4 hfl
  rw [← hP] at h h4 hfl
  have hll : (l.length : Int) = prev + m.length - P := by rw [hl, List.length_drop]; omega
  have hPi : i ≤ P := by omega
  have hPn : P ≤ i + es.length := by omega
  by_cases h5 : l.findIdx (isNew i t es) < l.length
  · rw [if_pos h5] at h
    obtain ⟨k, hk⟩ : ∃ k, l.findIdx (isNew i t es) = k := ⟨_, rfl⟩
    rw [hk] at h h5
    have hold : ∀ j (hj : j < k), isNew i t es (l[j]'(by omega)) = false := fun j hj => List.not_of_lt_findIdx (p := isNew i t es) (xs := l) (i := j) (by rw [hk]; exact hj)
    obtain ⟨n', hn'⟩ : ∃ n', n' = (P + (k : Int) - i).toNat := ⟨_, rfl⟩
    rw [← hn'] at h
    have hn2 : (n' : Int) = P + k - i := by omega
    have hnl : n' ≤ es.length := by
      cases k with
      | zero => omega
      | succ k' =>
        have h6 := of_decide_eq_true (notNew (hold k' (by omega))).1
        rw [follows_get hfl k' (by omega)] at h6
        omega
    cases h
    have hlen : ((es.take n' ++ l.drop k).length : Int) = P - i + l.length := by rw [List.length_append, List.length_take, List.length_drop]; omega
    refine ⟨hok, rfl, by omega, ⟨?_, by rw [List.length_drop]; omega⟩, fun hb q hq => ?_, fun he => ?_, .inr (by omega)⟩
    · rw [hl, List.drop_drop]
      congr 1
      rw [List.length_drop]
      have : k < m.length - s := by rw [hl, List.length_drop] at h5; exact h5
      omega
    · rw [← hs, ← hl] at hq
      rw [← hs, ← hl, ← hT, ← hP]
      refine ⟨decide_eq_true (by omega), ?_⟩
      unfold termT
      rw [if_pos (show inT i (es.take n' ++ l.drop k) (P + q) = true from decide_eq_true (by omega)), show (P + (q : Int) - i).toNat = (P - i).toNat + q by omega]
      cases q with
      | zero =>
        rw [Nat.add_zero, termN_prefix _ _ _ _ _ hnl (by omega)]
        have h7 : termT i t es P = termN t es (P - i).toNat := by unfold termT; rw [if_pos (show inT i es P = true from decide_eq_true (by omega))]
        rw [← h7, h4]
        rfl
      | succ j =>
        have hj : j < l.length := by omega
        rw [termN_succ _ _ _ hj]
        by_cases hjk : j < k
        · rw [termN_prefix _ _ _ _ _ hnl (by omega)]
          have h7 := notNew (hold j hjk)
          rw [follows_get hfl j hj] at h7
          have h8 : termT i t es (P + 1 + j) = termN t es ((P - i).toNat + (j + 1)) := by
            unfold termT; rw [if_pos h7.1, show (P + 1 + (j : Int) - i).toNat = (P - i).toNat + (j + 1) by omega]
          rw [← h8]
          exact h7.2
        · rw [show (P - i).toNat + (j + 1) = n' + (j - k) + 1 by omega, termN_suffix _ _ _ _ _ hnl (by rw [List.length_drop]; omega), List.getElem_drop]
          congr 2
          omega
    · have := congrArg List.length he
      simp at this
      omega
  · rw [if_neg h5] at h
    cases h
    have hall : ∀ j (hj : j < l.length), isNew i t es l[j] = false := fun j hj => List.not_of_lt_findIdx (p := isNew i t es) (xs := l) (i := j) (by omega)
    refine ⟨hok, rfl, by omega, ⟨by simp, by simp⟩, fun hb q hq => ?_, fun _ => rfl, .inl (Nat.le_refl _)⟩
    rw [← hs, ← hl] at hq
    rw [← hs, ← hl, ← hT, ← hP]
    cases q with
    | zero =>
      refine ⟨decide_eq_true (by omega), ?_⟩
      rw [show P + ((0 : Nat) : Int) = P by omega, h4]
      rfl
    | succ j =>
      have hj : j < l.length := by omega
      have h7 := notNew (hall j hj)
      rw [follows_get hfl j hj] at h7
      rw [termN_succ _ _ _ hj, show P + ((j + 1 : Nat) : Int) = P + 1 + j by omega]
      exact h7

/-- what was merged is not new again -/
theorem merged_again {i t : Int} {es : List Ent} {prev term : Int} {m : List Ent} {n : Int} {es2 more : List Ent} (h : Merged i t es prev term m n es2 more) : mergeT i t es2 prev term m = (0, n, es2, []) := by
  have hf := h.ok
  simp only [okNew, Bool.and_eq_true, decide_eq_true_eq] at hf
  have hf := hf.2
  have hnear := h.near
  by_cases hb : prev + m.length < i
  · unfold mergeT
    rw [h.ok, if_neg (by decide), if_neg (by omega), if_pos hb, h.num]
  · have ha := h.agree (by omega)
    have hfl : follows (max prev i) (termN term m (i - prev).toNat) (m.drop (i - prev).toNat) = true := by
      have := follows_drop (i - prev).toNat (by omega) hf
      rwa [show prev + ((i - prev).toNat : Int) = max prev i by omega] at this
    have h0 := ha 0 (by omega)
    rw [show max prev i + ((0 : Nat) : Int) = max prev i by omega] at h0
    rw [mergeT_none h.ok hnear (by omega) rfl rfl rfl h0.2, h.num]
    have : (m.drop (i - prev).toNat).findIdx (isNew i t es2) = (m.drop (i - prev).toNat).length := by
      rw [List.findIdx_eq_length]
      intro e he
      obtain ⟨j, hj, rfl⟩ := List.getElem_of_mem he
      have h1 := ha (j + 1) (by omega)
      rw [termN_succ _ _ _ hj, show max prev i + ((j + 1 : Nat) : Int) = max prev i + 1 + j by omega, ← follows_get hfl j hj] at h1
      unfold isNew
      rw [h1.1, h1.2]
      simp
    omega
/-- the last one that was merged is there -/
theorem merged_last {i t : Int} {es : List Ent} {prev term : Int} {m : List Ent} {n : Int} {es2 more : List Ent} (h : Merged i t es prev term m n es2 more) (hn : i ≤ n) : inT i es2 n = true ∧ termT i t es2 n = endT term m := by
  have hnum := h.num
  have ha := h.agree (by omega) (m.drop (i - prev).toNat).length (Nat.le_refl _)
  rw [termN_drop _ _ _ _ (by omega), List.length_drop, show (i - prev).toNat + (m.length - (i - prev).toNat) = m.length by omega, termN_end, show max prev i + ((m.length - (i - prev).toNat : Nat) : Int) = n by omega] at ha
  exact ha
theorem merge_err {i t : Int} {es : List Ent} {prev term : Int} {m : List Ent} {e : Nat} {n : Int} {es2 more : List Ent} (h : mergeT i t es prev term m = (e, n, es2, more)) (he : e ≠ 0) : n = 0 ∧ es2 = es ∧ more = [] := by
  unfold mergeT at h
  repeat' split at h
  all_goals (cases h; first | exact ⟨rfl, rfl, rfl⟩ | exact absurd rfl he)
end Go.Proofs.YtkjpfjgaabbggaaDoor
