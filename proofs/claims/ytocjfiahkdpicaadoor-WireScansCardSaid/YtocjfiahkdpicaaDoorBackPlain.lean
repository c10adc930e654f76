/- What was written is taken, and what is taken was written so: in plain Lean. -/
import Derived.Test.YtocjfiahkdpicaaDoorBlob
set_option linter.unusedVariables false
set_option linter.unusedSimpArgs false
namespace Go.Proofs.YtocjfiahkdpicaaDoor

theorem val_digs (n : Nat) : val (digs n) = n := by
  induction n using Nat.strongRecOn with
  | ind n ih =>
    by_cases h : n = 0
    · subst h; simp [digs_zero, val]
    · rw [digs_pos n h, val_snoc, ih (n / 256) (by omega)]
      simp
      omega
theorem digs_head (n : Nat) (h : n ≠ 0) : (digs n).getD 0 0 ≠ 0 := by
  induction n using Nat.strongRecOn with
  | ind n ih =>
    rw [digs_pos n h]
    by_cases h1 : n / 256 = 0
    · rw [h1, digs_zero]
      intro e
      have := congrArg UInt8.toNat e
      simp at this
      omega
    · have h2 := ih (n / 256) (by omega) h1
      have h3 : 0 < (digs (n / 256)).length := by
        rcases Nat.eq_zero_or_pos (digs (n / 256)).length with h0 | h0
        · exact absurd (digs_nil _ (List.eq_nil_of_length_eq_zero h0)) h1
        · exact h0
      intro e
      have h4 : (digs (n / 256) ++ [UInt8.ofNat (n % 256)]).getD 0 0 = (digs (n / 256)).getD 0 0 := by
        simp only [List.getD, List.getElem?_append_left h3]
      rw [h4] at e
      exact h2 e
theorem digs_first (n : Nat) (hn : n < 9223372036854775808) (h8 : (digs n).length = 8) : ((digs n).getD 0 0).toNat ≤ 127 := by
  cases hd : digs n with
  | nil => rw [hd] at h8; cases h8
  | cons c l =>
    have hv := val_digs n
    rw [hd] at h8
    have hl : l.length = 7 := by simpa using h8
    rw [hd, val_cons, hl] at hv
    have h4 : (256 : Nat) ^ 7 = 72057594037927936 := by decide
    rw [h4] at hv
    simp
    omega
/-- the way back from a list of digits: a list whose first one is none of 0 -/
theorem digs_val (l : List UInt8) (h : l = [] ∨ l.getD 0 0 ≠ 0) : digs (val l) = l := by
  have key : ∀ m (l : List UInt8), l.length = m → (l = [] ∨ l.getD 0 0 ≠ 0) → digs (val l) = l := by
    intro m
    induction m with
    | zero => intro l hl _; have : l = [] := List.eq_nil_of_length_eq_zero hl
              subst this; simp [val, digs_zero]
    | succ m ih =>
      intro l hl h
      obtain ⟨l', c, rfl⟩ : ∃ l' c, l = l' ++ [c] := by
        rcases List.eq_nil_or_concat l with h0 | ⟨l', c, h0⟩
        · subst h0; simp at hl
        · exact ⟨l', c, by simpa using h0⟩
      have hl' : l'.length = m := by simpa using hl
      have h0 : (l' ++ [c]).getD 0 0 ≠ 0 := by
        rcases h with h | h
        · simp at h
        · exact h
      have h' : l' = [] ∨ l'.getD 0 0 ≠ 0 := by
        cases l' with
        | nil => exact .inl rfl
        | cons a l' => right; simpa using h0
      have hc := c.toNat_lt
      have hne : val (l' ++ [c]) ≠ 0 := by
        rw [val_snoc]
        intro e
        have hv : val l' = 0 := by omega
        have hc0 : c.toNat = 0 := by omega
        have := ih l' hl' h'
        rw [hv, digs_zero] at this
        subst this
        apply h0
        simp
        exact UInt8.toNat_inj.1 (by simpa using hc0)
      rw [digs_pos _ hne, val_snoc]
      have e1 : (val l' * 256 + c.toNat) / 256 = val l' := by omega
      have e2 : (val l' * 256 + c.toNat) % 256 = c.toNat := by omega
      rw [e1, e2, ih l' hl' h']
      simp
  exact key _ l rfl h

theorem take_num (n : Nat) (hn : n < 9223372036854775808) (b : List UInt8) : takeE (numb n ++ b) = 0 ∧ takeV (numb n ++ b) = n ∧ takeN (numb n ++ b) = (numb n).length := by
  have h8 := digs_len8 n hn
  have hl : (numb n ++ b).length = (digs n).length + 1 + b.length := by simp [numb_length]
  have h0 : ((numb n ++ b).getD 0 0).toNat = (digs n).length := by simp [numb]; omega
  have h1 : 0 < (digs n).length → (numb n ++ b).getD 1 0 = (digs n).getD 0 0 := by
    intro h
    simp only [numb, List.cons_append, List.getD, List.getElem?_cons_succ]
    rw [List.getElem?_append_left h]
  have hE : takeE (numb n ++ b) = 0 := by
    unfold takeE
    rw [h0, hl, if_neg (by omega), if_neg (by omega), if_neg (by omega)]
    rw [if_neg, if_neg]
    · rintro ⟨h2, h3⟩
      rw [h1 h2] at h3
      have hn0 : n ≠ 0 := by
        rintro rfl
        rw [digs_zero] at h2
        simp at h2
      exact digs_head n hn0 (UInt8.toNat_inj.1 (by simpa using h3))
    · rintro ⟨h2, h3⟩
      rw [h1 (by omega)] at h3
      have := digs_first n hn h2
      omega
  refine ⟨hE, ?_, ?_⟩
  · unfold takeV
    rw [if_pos hE, h0]
    have : ((numb n ++ b).drop 1).take (digs n).length = digs n := by
      simp only [numb, List.cons_append, List.drop_succ_cons, List.drop_zero]
      rw [List.take_append_of_le_length (Nat.le_refl _), List.take_length]
    rw [this, val_digs]
  · unfold takeN
    rw [if_pos hE, h0, numb_length, Nat.add_comm]
theorem num_taken (b : List UInt8) (h : takeE b = 0) : numb (takeV b) = b.take (takeN b) ∧ takeV b < 9223372036854775808 := by
  have hN := takeN_le b h
  have hv : takeV b = val ((b.drop 1).take (b.getD 0 0).toNat) := by unfold takeV; rw [if_pos h]
  have hn : takeN b = 1 + (b.getD 0 0).toNat := by unfold takeN; rw [if_pos h]
  obtain ⟨k, hk⟩ : ∃ k, k = (b.getD 0 0).toNat := ⟨_, rfl⟩
  rw [← hk] at hv hn
  have hlen : ((b.drop 1).take k).length = k := by simp; omega
  have hE := h
  unfold takeE at hE
  rw [← hk] at hE
  have hk8 : k ≤ 8 := by
    split at hE
    · cases hE
    · split at hE
      · cases hE
      · omega
  have hfirst : ((b.drop 1).take k) = [] ∨ ((b.drop 1).take k).getD 0 0 ≠ 0 := by
    by_cases hk0 : k = 0
    · left; rw [hk0]; simp
    · right
      have e : ((b.drop 1).take k).getD 0 0 = b.getD 1 0 := by simp [List.getD, List.getElem?_take, show 0 < k by omega]
      rw [e]
      intro e0
      split at hE
      · cases hE
      · split at hE
        · cases hE
        · split at hE
          · cases hE
          · split at hE
            · cases hE
            · rw [if_pos ⟨by omega, by rw [e0]; rfl⟩] at hE
              cases hE
  have hd := digs_val _ hfirst
  have h63 : takeV b < 9223372036854775808 := by
    have := val_take_lt ((b.drop 1).take k) (by omega) (fun h8 => ?_) k (by omega)
    · rw [List.take_of_length_le (by omega)] at this
      rw [hv]; exact this
    · have e : ((b.drop 1).take k).getD 0 0 = b.getD 1 0 := by simp [List.getD, List.getElem?_take, show 0 < k by omega]
      rw [e, UInt8.lt_iff_toNat_lt]
      split at hE
      · cases hE
      · split at hE
        · cases hE
        · split at hE
          · cases hE
          · split at hE
            · cases hE
            · have : (128 : UInt8).toNat = 128 := rfl
              omega
  refine ⟨?_, h63⟩
  unfold numb
  rw [hv, hd, hlen, hn]
  cases b with
  | nil => simp at hN; omega
  | cons c b =>
    have : k = c.toNat := by simpa using hk
    subst this
    rw [Nat.add_comm 1]
    simp
theorem take_blob (p : List UInt8) (hp : p.length ≤ 65536) (b : List UInt8) : tblE (blob p ++ b) = 0 ∧ tblP (blob p ++ b) = p ∧ tblN (blob p ++ b) = (blob p).length := by
  have e : blob p ++ b = numb p.length ++ (p ++ b) := by simp [blob]
  obtain ⟨h1, h2, h3⟩ := take_num p.length (by omega) (p ++ b)
  rw [← e] at h1 h2 h3
  have hl : (blob p ++ b).length = (numb p.length).length + p.length + b.length := by simp [blob, Nat.add_assoc]
  have hE : tblE (blob p ++ b) = 0 := by
    unfold tblE
    rw [h1, h2, h3, hl, if_neg (by simp), if_neg (by omega), if_neg (by omega)]
  refine ⟨hE, ?_, ?_⟩
  · unfold tblP
    rw [if_pos hE, h2, h3, e, List.drop_left, List.take_left]
  · unfold tblN
    rw [if_pos hE, h2, h3]
    simp [blob]
theorem blob_taken (b : List UInt8) (h : tblE b = 0) : blob (tblP b) = b.take (tblN b) ∧ (tblP b).length ≤ 65536 ∧ 1 ≤ tblN b ∧ tblN b ≤ b.length := by
  have hE := h
  unfold tblE at hE
  split at hE
  · rename_i h1; exact absurd hE h1
  · rename_i h1
    have h1 : takeE b = 0 := by omega
    split at hE
    · cases hE
    · split at hE
      · cases hE
      · rename_i h2 h3
        have hN := takeN_le b h1
        have hp : tblP b = (b.drop (takeN b)).take (takeV b) := by unfold tblP; rw [if_pos h]
        have hn : tblN b = takeN b + takeV b := by unfold tblN; rw [if_pos h]
        have hl : (tblP b).length = takeV b := by rw [hp]; simp; omega
        obtain ⟨ht, _⟩ := num_taken b h1
        refine ⟨?_, by omega, by omega, by omega⟩
        unfold blob
        rw [hl, ht, hp, hn, List.take_add]
end Go.Proofs.YtocjfiahkdpicaaDoor
