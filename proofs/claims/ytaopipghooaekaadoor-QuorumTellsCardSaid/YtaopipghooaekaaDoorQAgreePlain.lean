/- What a majority has: the plain laws of QuorumAgrees and QuorumMore; nothing of the program is walked here. -/
import Derived.Test.YtaopipghooaekaaDoorQAgreed
set_option linter.unusedVariables false
set_option linter.unusedSimpArgs false
namespace Go.Proofs.YtaopipghooaekaaDoor
open Go.RowKit

theorem sorted_perm (ns : List Int) : (sorted ns).Perm ns := List.mergeSort_perm _ _
theorem sorted_rises (ns : List Int) : (sorted ns).Pairwise (· ≤ ·) := by
  have h := List.pairwise_mergeSort (le := fun x y : Int => decide (x ≤ y)) (fun a b c h1 h2 => by simp at *; omega) (fun a b => by simp; omega) ns
  exact h.imp (fun h => of_decide_eq_true h)
theorem rises_le {l : List Int} (h : l.Pairwise (· ≤ ·)) {i j : Nat} (hij : i ≤ j) (hj : j < l.length) : l[i] ≤ l[j] := by
  rcases Nat.lt_or_ge i j with h1 | h1
  · exact (List.pairwise_iff_getElem.1 h) i j (by omega) hj h1
  · obtain rfl : i = j := by omega
    exact Int.le_refl _
/-- at most k are below the k-th -/
theorem below_kth (l : List Int) (k : Nat) (hk : k < l.length) (h : l.Pairwise (· ≤ ·)) (p : Int → Bool) (hp : ∀ x, l[k] ≤ x → p x = false) : l.countP p ≤ k := by
  conv => lhs; rw [← List.take_append_drop k l, List.countP_append]
  have h1 : (l.take k).countP p ≤ k := Nat.le_trans List.countP_le_length (by simp; omega)
  have h2 : (l.drop k).countP p = 0 := by
    rw [List.countP_eq_zero]
    intro x hx
    obtain ⟨i, hi, rfl⟩ := List.mem_iff_getElem.1 hx
    simp at hi
    rw [List.getElem_drop, hp _ (rises_le h (by omega) (by omega))]
    simp
  omega
/-- more than k are at most the k-th -/
theorem upto_kth (l : List Int) (k : Nat) (hk : k < l.length) (h : l.Pairwise (· ≤ ·)) (p : Int → Bool) (hp : ∀ x, x ≤ l[k] → p x = true) : k + 1 ≤ l.countP p := by
  conv => rhs; rw [← List.take_append_drop (k + 1) l, List.countP_append]
  have h1 : (l.take (k + 1)).countP p = k + 1 := by
    rw [show (l.take (k + 1)).countP p = (l.take (k + 1)).length from List.countP_eq_length.2 fun x hx => by
      obtain ⟨i, hi, rfl⟩ := List.mem_iff_getElem.1 hx
      simp at hi
      rw [List.getElem_take]
      exact hp _ (rises_le h (by omega) hk)]
    simp
    omega
  omega
theorem getD_get (l : List Int) (k : Nat) (hk : k < l.length) : l.getD k 0 = l[k] := by simp [List.getD, hk]

theorem sorted_mono (xs ys : List Int) (hl : xs.length = ys.length) (h : ∀ i (h1 : i < xs.length) (h2 : i < ys.length), xs[i] ≤ ys[i]) (k : Nat) : (sorted xs).getD k 0 ≤ (sorted ys).getD k 0 := by
  by_cases hk : k < xs.length
  · have hk1 : k < (sorted xs).length := by rw [sorted_length]; exact hk
    have hk2 : k < (sorted ys).length := by rw [sorted_length, ← hl]; exact hk
    rw [getD_get _ _ hk1, getD_get _ _ hk2]
    by_cases hlt : (sorted xs)[k] ≤ (sorted ys)[k]
    · exact hlt
    · exfalso
      obtain ⟨s, hs⟩ : ∃ s, s = (sorted xs)[k] := ⟨_, rfl⟩
      have h1 : (sorted xs).countP (fun x => decide (x < s)) ≤ k := below_kth _ k hk1 (sorted_rises _) _ (fun x hx => by simp; omega)
      have h2 : k + 1 ≤ (sorted ys).countP (fun x => decide (x < s)) := upto_kth _ k hk2 (sorted_rises _) _ (fun x hx => by simp; omega)
      rw [(sorted_perm xs).countP_eq] at h1
      rw [(sorted_perm ys).countP_eq] at h2
      have h3 : ∀ (us vs : List Int), us.length = vs.length → (∀ i (h1 : i < us.length) (h2 : i < vs.length), us[i] ≤ vs[i]) → vs.countP (fun x => decide (x < s)) ≤ us.countP (fun x => decide (x < s)) := by
        intro us
        induction us with
        | nil => intro vs hb _; obtain rfl : vs = [] := List.eq_nil_of_length_eq_zero (by simpa using hb.symm); simp
        | cons a us ih =>
          intro vs hb hall
          cases vs with
          | nil => simp at hb
          | cons b vs =>
            have h0 := hall 0 (by simp) (by simp)
            simp only [List.getElem_cons_zero] at h0
            have := ih vs (by simpa using hb) (fun i h1 h2 => by have := hall (i + 1) (by simp; omega) (by simp; omega); simpa using this)
            simp only [List.countP_cons, decide_eq_true_eq]
            split <;> split <;> omega
      have := h3 xs ys hl h
      omega
  · rw [List.getD_eq_getElem?_getD, List.getElem?_eq_none (by rw [sorted_length]; omega), List.getD_eq_getElem?_getD, List.getElem?_eq_none (by rw [sorted_length]; omega)]
    exact Int.le_refl _

/-- those of some that a test takes, counted among those -/
theorem among_filter (ns : List Int) (p : Int → Bool) : among ns (ns.filter p) = ns.countP p := by
  unfold among
  rw [List.countP_eq_length_filter]
  congr 1
  apply List.filter_congr
  intro x hx
  rw [Bool.eq_iff_iff]
  simp [hx]

theorem countP_not (l : List Int) (p : Int → Bool) : l.countP p + l.countP (fun x => !p x) = l.length := by
  induction l with
  | nil => rfl
  | cons a l ih => simp only [List.countP_cons, List.length_cons]; cases p a <;> simp <;> omega

/-- a majority has what is agreed -/
theorem agreed_have {ns : List Int} (ms : List (Int × Int)) (h : rightB ns = true) : wonB ns (ns.filter fun v => decide (agreedT ns ms ≤ idxOf ms v)) = true := by
  obtain ⟨h1, h5⟩ := right_len h
  rw [wonB_ok h, among_filter]
  have hk : (ns.length - 1) / 2 < (sorted (ns.map (idxOf ms))).length := by rw [sorted_length, List.length_map]; omega
  have ha : agreedT ns ms = (sorted (ns.map (idxOf ms)))[(ns.length - 1) / 2] := by rw [agreedT_ok h, getD_get _ _ hk]
  have h2 := below_kth _ _ hk (sorted_rises _) (fun x => decide (x < agreedT ns ms)) (fun x hx => by rw [← ha] at hx; simp; omega)
  rw [(sorted_perm _).countP_eq, List.countP_map] at h2
  have h3 := countP_not ns (fun v => decide (agreedT ns ms ≤ idxOf ms v))
  have h4 : ns.countP (fun v => !decide (agreedT ns ms ≤ idxOf ms v)) = ns.countP ((fun x => decide (x < agreedT ns ms)) ∘ idxOf ms) := by
    apply List.countP_congr
    intro x _
    simp only [Function.comp, Bool.not_eq_true', decide_eq_false_iff_not, decide_eq_true_eq]
    omega
  unfold mostB
  simp only [decide_eq_true_eq]
  omega
/-- and none beyond -/
theorem agreed_more {ns : List Int} (ms : List (Int × Int)) (h : rightB ns = true) : wonB ns (ns.filter fun v => decide (agreedT ns ms < idxOf ms v)) = false := by
  obtain ⟨h1, h5⟩ := right_len h
  rw [wonB_ok h, among_filter]
  have hk : (ns.length - 1) / 2 < (sorted (ns.map (idxOf ms))).length := by rw [sorted_length, List.length_map]; omega
  have ha : agreedT ns ms = (sorted (ns.map (idxOf ms)))[(ns.length - 1) / 2] := by rw [agreedT_ok h, getD_get _ _ hk]
  have h2 := upto_kth _ _ hk (sorted_rises _) (fun x => decide (x ≤ agreedT ns ms)) (fun x hx => by rw [← ha] at hx; simp; omega)
  rw [(sorted_perm _).countP_eq, List.countP_map] at h2
  have h3 := countP_not ns (fun v => decide (agreedT ns ms < idxOf ms v))
  have h4 : ns.countP (fun v => !decide (agreedT ns ms < idxOf ms v)) = ns.countP ((fun x => decide (x ≤ agreedT ns ms)) ∘ idxOf ms) := by
    apply List.countP_congr
    intro x _
    simp only [Function.comp, Bool.not_eq_true', decide_eq_false_iff_not, decide_eq_true_eq]
    omega
  unfold mostB
  simp only [decide_eq_false_iff_not]
  omega

/-- more nodes, and a majority stays one -/
theorem won_more {ns some : List Int} (more : List Int) (h : wonB ns some = true) : wonB ns (some ++ more) = true := by
  unfold wonB at h ⊢
  simp only [Bool.and_eq_true] at h ⊢
  refine ⟨h.1, ?_⟩
  have : among ns some ≤ among ns (some ++ more) := by
    unfold among
    rw [← List.countP_eq_length_filter, ← List.countP_eq_length_filter]
    apply List.countP_mono_left
    intro x _ hx
    simp at hx ⊢
    exact .inl hx
  have h2 := h.2
  unfold mostB at h2 ⊢
  simp only [decide_eq_true_eq] at h2 ⊢
  omega

/-- matches further on: the same nodes, no index less -/
def farT (ms : List (Int × Int)) (d : Int) : List (Int × Int) := ms.map fun m => (m.1, if m.2 < 1099511627776 then m.2 + d else m.2)
theorem far_first (ms : List (Int × Int)) (d v : Int) : firstOf (farT ms d) v = firstOf ms v := by
  unfold firstOf farT
  induction ms with
  | nil => rfl
  | cons m ms ih => simp only [List.map_cons, List.findIdx_cons]; rw [ih]
theorem far_idx (ms : List (Int × Int)) (d v : Int) (h : 0 ≤ d) : idxOf ms v ≤ idxOf (farT ms d) v := by
  unfold idxOf
  rw [far_first]
  by_cases hf : firstOf ms v < ms.length
  · have e1 : ms.getD (firstOf ms v) (0, 0) = ms[firstOf ms v] := by simp [List.getD, hf]
    have e2 : (farT ms d).getD (firstOf ms v) (0, 0) = ((ms[firstOf ms v]).1, if (ms[firstOf ms v]).2 < 1099511627776 then (ms[firstOf ms v]).2 + d else (ms[firstOf ms v]).2) := by simp [List.getD, farT, hf]
    rw [e1, e2]
    simp only
    split <;> omega
  · rw [List.getD_eq_getElem?_getD, List.getElem?_eq_none (by omega), List.getD_eq_getElem?_getD, List.getElem?_eq_none (by simp [farT]; omega)]
    exact Int.le_refl _
/-- with more matches the index that is agreed does not fall -/
theorem agreed_far (ns : List Int) (ms : List (Int × Int)) (d : Int) (h : 0 ≤ d) : agreedT ns ms ≤ agreedT ns (farT ms d) := by
  unfold agreedT
  split
  · exact sorted_mono _ _ (by simp) (fun i h1 h2 => by simp only [List.getElem_map]; exact far_idx _ _ _ h) _
  · exact Int.le_refl _
end Go.Proofs.YtaopipghooaekaaDoor
