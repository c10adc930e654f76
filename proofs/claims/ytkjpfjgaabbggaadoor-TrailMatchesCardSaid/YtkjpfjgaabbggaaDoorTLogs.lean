/- Logs of terms grow; pieces of logs under Compact; two pieces that share an entry: the plain laws of TrailMatches. -/
import Derived.Test.YtkjpfjgaabbggaaDoorTMatch
import Derived.Test.YtkjpfjgaabbggaaDoorTCompact
set_option linter.unusedVariables false
set_option linter.unusedSimpArgs false
namespace Go.Proofs.YtkjpfjgaabbggaaDoor
open Go.RowKit

/-- an entry of the one log of a term -/
def logE (x T : Nat) : Ent := ⟨(x : Int), T, 0, [UInt8.ofNat x, UInt8.ofNat T]⟩
/-- so many of them behind k -/
def logs4 (k T : Nat) : Nat → List Ent
  | 0 => []
  | j + 1 => logs4 k T j ++ [logE (k + j + 1) T]
theorem logs4_length (k T : Nat) : ∀ j, (logs4 k T j).length = j
  | 0 => rfl
  | j + 1 => by simp [logs4, logs4_length k T j]
theorem logs4_get (k T : Nat) : ∀ (j : Nat) (i : Nat) (h : i < (logs4 k T j).length), (logs4 k T j)[i] = logE (k + i + 1) T
  | 0, i, h => by simp [logs4] at h
  | j + 1, i, h => by
    by_cases hi : i < j
    · have h1 : i < (logs4 k T j).length := by rw [logs4_length]; exact hi
      have := logs4_get k T j i h1
      simp only [logs4]
      rw [List.getElem_append_left h1]
      exact this
    · have hij : i = j := by rw [logs4_length] at h; omega
      subst hij
      simp only [logs4]
      rw [List.getElem_append_right (by rw [logs4_length]; exact Nat.le_refl _)]
      simp [logs4_length]
theorem follows_append : ∀ (es fs : List Ent) (i t : Int), follows i t es = true → follows (i + es.length) (endT t es) fs = true → follows i t (es ++ fs) = true
  | [], fs, i, t, _, h => by simpa [endT] using h
  | e :: es, fs, i, t, h1, h2 => by
    have hc := follows_cons h1
    simp only [List.cons_append, follows]
    rw [if_pos ⟨hc.1, hc.2.1, hc.2.2.1⟩]
    refine follows_append es fs (i + 1) e.t hc.2.2.2 ?_
    simp only [List.length_cons, endT] at h2
    rw [show i + 1 + (es.length : Int) = i + ((es.length + 1 : Nat) : Int) by push_cast; omega]
    exact h2
theorem endT_le (N : Int) : ∀ (es : List Ent) (t : Int), t ≤ N → (∀ e ∈ es, e.t ≤ N) → endT t es ≤ N
  | [], t, h, _ => h
  | e :: es, t, h, hs => endT_le N es e.t (hs e (by simp)) (fun x hx => hs x (by simp [hx]))
theorem follows_take : ∀ (es : List Ent) (i t : Int) (k : Nat), follows i t es = true → follows i t (es.take k) = true
  | es, i, t, 0, _ => by simp [follows]
  | [], i, t, k + 1, _ => by simp [follows]
  | e :: es, i, t, k + 1, h => by
    have hc := follows_cons h
    simp only [List.take_succ_cons, follows]
    rw [if_pos ⟨hc.1, hc.2.1, hc.2.2.1⟩]
    exact follows_take es _ _ k hc.2.2.2
theorem logs4_follows (k T : Nat) (t : Int) (ht : t ≤ T) : ∀ j, follows k t (logs4 k T j) = true ∧ (endT t (logs4 k T j) ≤ T)
  | 0 => ⟨rfl, by simpa [logs4, endT] using ht⟩
  | j + 1 => by
    obtain ⟨h1, h2⟩ := logs4_follows k T t ht j
    constructor
    · refine follows_append _ _ _ _ h1 ?_
      rw [logs4_length]
      simp only [follows, logE]
      exact if_pos ⟨by push_cast; omega, h2, by omega⟩
    · simp only [logs4, endT_append, endT, logE]
      omega

/-- a log more: k entries of an elder one, four of a new term -/
theorem Logs.step {N : Nat} {ls : List (List Ent)} (h : Logs N ls) {l0 : List Ent} (hl0 : l0 ∈ ls) (k : Nat) (hk : k ≤ l0.length) : Logs (N + 1) (ls ++ [l0.take k ++ logs4 k (N + 1) 4]) := by
  obtain ⟨nw, hnw⟩ : ∃ nw, nw = l0.take k ++ logs4 k (N + 1) 4 := ⟨_, rfl⟩
  rw [← hnw]
  have hlen : nw.length = k + 4 := by rw [hnw, List.length_append, logs4_length, List.length_take]; omega
  have hlo : ∀ j (hj : j < k), ∃ h1 : j < nw.length, ∃ h2 : j < l0.length, nw[j] = l0[j] := fun j hj => ⟨by omega, by omega, by
    subst hnw
    rw [List.getElem_append_left (by rw [List.length_take]; omega), List.getElem_take]⟩
  have hhi : ∀ j (h1 : j < nw.length), k ≤ j → nw[j].t = (N + 1 : Nat) := fun j h1 hj => by
    subst hnw
    rw [List.getElem_append_right (by rw [List.length_take]; omega), logs4_get]
    rfl
  have htk : ∀ j, j ≤ k → nw.take j = l0.take j := fun j hj => by
    rw [hnw, List.take_append_of_le_length (by rw [List.length_take]; omega), List.take_take, Nat.min_eq_left hj]
  have hold : ∀ l ∈ ls, ∀ j (h1 : j < l.length) (h2 : j < nw.length), l[j].t = nw[j].t → l.take (j + 1) = nw.take (j + 1) := fun l hl j h1 h2 he => by
    by_cases hj : j < k
    · obtain ⟨_, h4, h5⟩ := hlo j hj
      rw [h5] at he
      rw [htk (j + 1) (by omega)]
      exact h.same l hl l0 hl0 j h1 h4 he
    · have h3 := hhi j h2 (by omega)
      have h4 := h.terms l hl l[j] (List.getElem_mem h1)
      rw [he, h3] at h4
      push_cast at h4
      omega
  refine ⟨fun l hl => ?_, fun l hl l' hl' j h1 h2 he => ?_, fun l hl e he => ?_⟩
  · rcases List.mem_append.1 hl with hm | hm
    · exact h.row l hm
    · obtain rfl := List.mem_singleton.1 hm
      rw [hnw]
      refine follows_append _ _ _ _ (follows_take _ _ _ _ (h.row l0 hl0)) ?_
      have h1 : endT 0 (l0.take k) ≤ ((N + 1 : Nat) : Int) := endT_le _ _ _ (by omega) fun e he => by
        have := h.terms l0 hl0 e (List.mem_of_mem_take he)
        push_cast
        omega
      have := (logs4_follows k (N + 1) _ h1 4).1
      rw [List.length_take, Nat.min_eq_left hk]
      simpa using this
  · rcases List.mem_append.1 hl with hm | hm
    · rcases List.mem_append.1 hl' with hm' | hm'
      · exact h.same l hm l' hm' j h1 h2 he
      · obtain rfl := List.mem_singleton.1 hm'
        exact hold l hm j h1 h2 he
    · obtain rfl := List.mem_singleton.1 hm
      rcases List.mem_append.1 hl' with hm' | hm'
      · exact (hold l' hm' j h2 h1 he.symm).symm
      · obtain rfl := List.mem_singleton.1 hm'
        rfl
  · rcases List.mem_append.1 hl with hm | hm
    · have := h.terms l hm e he
      push_cast
      omega
    · obtain rfl := List.mem_singleton.1 hm
      obtain ⟨j, hj, rfl⟩ := List.mem_iff_getElem.1 he
      by_cases hjk : j < k
      · obtain ⟨_, h4, h5⟩ := hlo j hjk
        rw [h5]
        have := h.terms l0 hl0 l0[j] (List.getElem_mem h4)
        push_cast
        omega
      · rw [hhi j hj (by omega)]
        exact Int.le_refl _

/-- a piece under Compact -/
theorem piece_drop {ls : List (List Ent)} {i : Nat} {t : Int} {es : List Ent} (h : Piece ls i t es) (n : Nat) (hn : n ≤ es.length) : Piece ls (i + n) (termT i t es (i + n)) (es.drop n) := by
  obtain ⟨l, hl, h1, h2, h3⟩ := h
  refine ⟨l, hl, by rw [List.length_drop]; omega, ?_, ?_⟩
  · have := piece_term h1 h3 n hn
    rw [← h2] at this
    rw [← this]
    exact (termT_in i t es n hn).1
  · obtain ⟨m, hm⟩ : ∃ m, m = es.length := ⟨_, rfl⟩
    rw [← hm] at h3 hn
    rw [List.length_drop, ← hm, h3, List.drop_take, List.drop_drop]
theorem compact_piece {ls : List (List Ent)} {i : Nat} {t : Int} {es : List Ent} (h : Piece ls i t es) (x : Int) : ∃ i' : Nat, (compactT i t es x).2.1 = i' ∧ Piece ls i' (compactT i t es x).2.2.1 (compactT i t es x).2.2.2 := by
  unfold compactT
  by_cases hx : inT i es x = true
  · rw [if_pos hx]
    have := of_decide_eq_true hx
    refine ⟨i + (x - i).toNat, by push_cast; omega, ?_⟩
    have h1 := piece_drop h (x - i).toNat (by omega)
    rw [show ((i : Int) + ((x - i).toNat : Nat)) = x by omega] at h1
    exact h1
  · rw [if_neg hx]
    exact ⟨i, rfl, h⟩
/-- an entry of a piece is the log's -/
theorem piece_get {l es : List Ent} {i : Nat} (h1 : i + es.length ≤ l.length) (h3 : es = (l.drop i).take es.length) (j : Nat) (hj : j < es.length) : es[j] = l[i + j]'(by omega) := by
  have e : es[j]? = l[i + j]? := by
    conv => lhs; rw [h3]
    rw [List.getElem?_take_of_lt hj, List.getElem?_drop]
  rw [List.getElem?_eq_getElem hj, List.getElem?_eq_getElem (by omega)] at e
  exact Option.some.inj e
/-- logs that agree in a term agree up to it -/
theorem logs_same {N : Nat} {ls : List (List Ent)} (h : Logs N ls) {l l' : List Ent} (hl : l ∈ ls) (hl' : l' ∈ ls) (j : Nat) (h1 : j < l.length) (h2 : j < l'.length) (ht : l[j].t = l'[j].t) : l.take (j + 1) = l'.take (j + 1) := h.same l hl l' hl' j h1 h2 ht
theorem take_get {l l' : List Ent} {q : Nat} (h : l.take q = l'.take q) (j : Nat) (hj : j < q) (h1 : j < l.length) (h2 : j < l'.length) : l[j] = l'[j] := by
  have e : (l.take q)[j]? = (l'.take q)[j]? := by rw [h]
  rw [List.getElem?_take_of_lt hj, List.getElem?_take_of_lt hj, List.getElem?_eq_getElem h1, List.getElem?_eq_getElem h2] at e
  exact Option.some.inj e
theorem take_less {l l' : List Ent} {q r : Nat} (h : l.take q = l'.take q) (hr : r ≤ q) : l.take r = l'.take r := by
  have := congrArg (List.take r) h
  rwa [List.take_take, List.take_take, Nat.min_eq_left hr] at this
end Go.Proofs.YtkjpfjgaabbggaaDoor
