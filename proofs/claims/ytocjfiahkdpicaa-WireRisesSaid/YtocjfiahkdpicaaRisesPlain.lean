/- Greater numbers have greater bytes: in plain Lean. -/
import Derived.Test.YtocjfiahkdpicaaNumPlain
set_option linter.unusedVariables false
set_option linter.unusedSimpArgs false
namespace Go.Proofs.Ytocjfiahkdpicaa

theorem bl_cons_same (x : UInt8) (a b : List UInt8) : Op.bytesLess (x :: a) (x :: b) = Op.bytesLess a b := by simp [Op.bytesLess]
theorem bl_cons_lt (x y : UInt8) (a b : List UInt8) (h : x < y) : Op.bytesLess (x :: a) (y :: b) = true := by simp [Op.bytesLess, h]
theorem bl_cons_gt (x y : UInt8) (a b : List UInt8) (h : y < x) : Op.bytesLess (x :: a) (y :: b) = false := by
  have h1 : ¬ x < y := by simp only [UInt8.lt_iff_toNat_lt] at *; omega
  have h2 : ¬ x = y := by rintro rfl; simp only [UInt8.lt_iff_toNat_lt] at *; omega
  simp [Op.bytesLess, h1, h2]
theorem bl_irrefl (a : List UInt8) : Op.bytesLess a a = false := by
  induction a with
  | nil => rfl
  | cons x a ih => rw [bl_cons_same, ih]
/-- of one length: what stands ahead decides first -/
theorem bl_snoc (a b : List UInt8) (h : a.length = b.length) (x y : UInt8) : Op.bytesLess (a ++ [x]) (b ++ [y]) = (Op.bytesLess a b || (a == b && decide (x < y))) := by
  induction a generalizing b with
  | nil =>
    have : b = [] := List.eq_nil_of_length_eq_zero (by simpa using h.symm)
    subst this
    rcases Nat.lt_trichotomy x.toNat y.toNat with h1 | h1 | h1
    · have : x < y := by simpa [UInt8.lt_iff_toNat_lt] using h1
      simp [bl_cons_lt _ _ _ _ this, this]
    · have : x = y := UInt8.toNat_inj.1 h1
      subst this
      simp [bl_irrefl]
    · have h2 : y < x := by simpa [UInt8.lt_iff_toNat_lt] using h1
      have h3 : ¬ x < y := by simp only [UInt8.lt_iff_toNat_lt]; omega
      simp [bl_cons_gt _ _ _ _ h2, h3, Op.bytesLess]
  | cons u a ih =>
    cases b with
    | nil => simp at h
    | cons v b =>
      have hl : a.length = b.length := by simpa using h
      rcases Nat.lt_trichotomy u.toNat v.toNat with h1 | h1 | h1
      · have h2 : u < v := by simpa [UInt8.lt_iff_toNat_lt] using h1
        rw [List.cons_append, List.cons_append, bl_cons_lt _ _ _ _ h2, bl_cons_lt _ _ _ _ h2]; simp
      · have : u = v := UInt8.toNat_inj.1 h1
        subst this
        rw [List.cons_append, List.cons_append, bl_cons_same, bl_cons_same, ih b hl]; simp
      · have h2 : v < u := by simpa [UInt8.lt_iff_toNat_lt] using h1
        have h3 : ¬ u = v := by rintro rfl; omega
        rw [List.cons_append, List.cons_append, bl_cons_gt _ _ _ _ h2, bl_cons_gt _ _ _ _ h2]; simp [h3]

theorem digs_mono_len (n : Nat) : ∀ m, n ≤ m → (digs n).length ≤ (digs m).length := by
  induction n using Nat.strongRecOn with
  | ind n ih =>
    intro m h
    by_cases h0 : n = 0
    · subst h0; simp [digs_zero]
    · rw [digs_pos n h0, digs_pos m (by omega)]
      have := ih (n / 256) (by omega) (m / 256) (by omega)
      simp; omega
theorem digs_less (n : Nat) : ∀ m, (digs n).length = (digs m).length → Op.bytesLess (digs n) (digs m) = decide (n < m) ∧ (digs n == digs m) = decide (n = m) := by
  induction n using Nat.strongRecOn with
  | ind n ih =>
    intro m h
    by_cases h0 : n = 0
    · subst h0
      rw [digs_zero] at h
      have hm : m = 0 := digs_nil m (List.eq_nil_of_length_eq_zero (by simpa using h.symm))
      subst hm
      simp [digs_zero, Op.bytesLess]
    · have hm : m ≠ 0 := by
        rintro rfl
        rw [digs_zero, digs_pos n h0] at h
        simp at h
      rw [digs_pos n h0, digs_pos m hm] at h ⊢
      have hl : (digs (n / 256)).length = (digs (m / 256)).length := by simpa using h
      obtain ⟨h1, h2⟩ := ih (n / 256) (by omega) (m / 256) hl
      have e : ((UInt8.ofNat (n % 256)) < (UInt8.ofNat (m % 256))) ↔ n % 256 < m % 256 := by
        simp [UInt8.lt_iff_toNat_lt]
      have e2 : ((UInt8.ofNat (n % 256)) = (UInt8.ofNat (m % 256))) ↔ n % 256 = m % 256 := by
        rw [← UInt8.toNat_inj]; simp
      constructor
      · rw [bl_snoc _ _ hl, h1, h2, Bool.eq_iff_iff]
        simp only [Bool.or_eq_true, Bool.and_eq_true, decide_eq_true_eq, e]
        omega
      · rw [Bool.eq_iff_iff]
        have h3 : digs (n / 256) = digs (m / 256) ↔ n / 256 = m / 256 := by
          have := h2
          rw [Bool.eq_iff_iff] at this
          simpa using this
        simp only [beq_iff_eq, decide_eq_true_eq]
        constructor
        · intro hh
          obtain ⟨h4, h5⟩ := List.append_inj' hh rfl
          have h6 := h3.1 h4
          have h7 := e2.1 (by simpa using h5)
          omega
        · rintro rfl; rfl
theorem numb_less (n m : Nat) (hn : n < 9223372036854775808) (hm : m < 9223372036854775808) : Op.bytesLess (numb n) (numb m) = decide (n < m) ∧ (numb n == numb m) = decide (n = m) := by
  have ln := digs_len8 n hn
  have lm := digs_len8 m hm
  have en : (UInt8.ofNat (digs n).length).toNat = (digs n).length := by simp; omega
  have em : (UInt8.ofNat (digs m).length).toNat = (digs m).length := by simp; omega
  unfold numb
  rcases Nat.lt_trichotomy (digs n).length (digs m).length with h | h | h
  · have hlt : n < m := by
      rcases Nat.lt_or_ge n m with h1 | h1
      · exact h1
      · have := digs_mono_len m n h1; omega
    rw [bl_cons_lt _ _ _ _ (by rw [UInt8.lt_iff_toNat_lt, en, em]; exact h)]
    have hne : ¬ n = m := by omega
    have hne2 : ¬ UInt8.ofNat (digs n).length = UInt8.ofNat (digs m).length := by
      intro e; rw [← UInt8.toNat_inj, en, em] at e; omega
    simp [hlt, hne, hne2]
  · rw [h, bl_cons_same]
    obtain ⟨h1, h2⟩ := digs_less n m h
    refine ⟨h1, ?_⟩
    rw [← h2]
    simp
  · have hlt : m < n := by
      rcases Nat.lt_or_ge m n with h1 | h1
      · exact h1
      · have := digs_mono_len n m h1; omega
    rw [bl_cons_gt _ _ _ _ (by rw [UInt8.lt_iff_toNat_lt, en, em]; exact h)]
    have hne : ¬ n = m := by omega
    have hnl : ¬ n < m := by omega
    have hne2 : ¬ UInt8.ofNat (digs n).length = UInt8.ofNat (digs m).length := by
      intro e; rw [← UInt8.toNat_inj, en, em] at e; omega
    simp [hnl, hne, hne2]
end Go.Proofs.Ytocjfiahkdpicaa
