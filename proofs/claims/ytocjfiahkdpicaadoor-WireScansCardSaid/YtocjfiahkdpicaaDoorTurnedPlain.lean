/- A frame of which one byte is another one is not opened as it was: in plain Lean. -/
import Derived.Test.YtocjfiahkdpicaaDoorOpenFrame
set_option linter.unusedVariables false
set_option linter.unusedSimpArgs false
namespace Go.Proofs.YtocjfiahkdpicaaDoor

theorem xor_eq_zero {a b : Nat} (h : a ^^^ b = 0) : a = b := by
  have : (a ^^^ b) ^^^ b = b := by rw [h, Nat.zero_xor]
  rwa [Nat.xor_assoc, Nat.xor_self, Nat.xor_zero] at this
theorem cstep_zero (x : Nat) (hx : x < 4294967296) (h : cstep x = 0) : x = 0 := by
  unfold cstep at h
  split at h
  · have := xor_eq_zero h; omega
  · omega
theorem cstep_inj (a b : Nat) (ha : a < 4294967296) (hb : b < 4294967296) (h : cstep a = cstep b) : a = b := by
  apply xor_eq_zero
  apply cstep_zero _ (xor_u32_lt _ _ ha hb)
  rw [cstep_xor, h, Nat.xor_self]
theorem csteps_inj (n : Nat) : ∀ a b, a < 4294967296 → b < 4294967296 → csteps n a = csteps n b → a = b := by
  induction n with
  | zero => exact fun a b _ _ h => h
  | succ n ih => exact fun a b ha hb h => cstep_inj a b ha hb (ih _ _ (cstep_lt a ha) (cstep_lt b hb) h)
theorem xor_right_inj {a b c : Nat} (h : a ^^^ c = b ^^^ c) : a = b := by
  have : (a ^^^ c) ^^^ c = (b ^^^ c) ^^^ c := by rw [h]
  simpa [Nat.xor_assoc] using this
theorem cbyte_inj_s (s t : Nat) (b : UInt8) (hs : s < 4294967296) (ht : t < 4294967296) (h : cbyte s b = cbyte t b) : s = t := by
  have hb : b.toNat < 4294967296 := by have := b.toNat_lt; omega
  exact xor_right_inj (csteps_inj 8 _ _ (xor_u32_lt _ _ hs hb) (xor_u32_lt _ _ ht hb) h)
theorem cbyte_inj_b (s : Nat) (a b : UInt8) (hs : s < 4294967296) (h : cbyte s a = cbyte s b) : a = b := by
  have ha : a.toNat < 4294967296 := by have := a.toNat_lt; omega
  have hb : b.toNat < 4294967296 := by have := b.toNat_lt; omega
  have := csteps_inj 8 _ _ (xor_u32_lt _ _ hs ha) (xor_u32_lt _ _ hs hb) h
  rw [Nat.xor_comm s, Nat.xor_comm s] at this
  exact UInt8.toNat_inj.1 (xor_right_inj this)
theorem crcFrom_inj (l : List UInt8) : ∀ s t, s < 4294967296 → t < 4294967296 → crcFrom s l = crcFrom t l → s = t := by
  induction l with
  | nil => exact fun s t _ _ h => h
  | cons b l ih => exact fun s t hs ht h => cbyte_inj_s s t b hs ht (ih _ _ (cbyte_lt s b hs) (cbyte_lt t b ht) h)
theorem crcFrom_set (l : List UInt8) (k : Nat) (hk : k < l.length) (x : UInt8) (hx : x ≠ l[k]) : ∀ s, s < 4294967296 → crcFrom s (l.set k x) ≠ crcFrom s l := by
  induction l generalizing k with
  | nil => simp at hk
  | cons b l ih =>
    intro s hs h
    cases k with
    | zero =>
      have h1 := crcFrom_inj l (cbyte s x) (cbyte s b) (cbyte_lt s x hs) (cbyte_lt s b hs) h
      exact hx (cbyte_inj_b s x b hs h1)
    | succ k => exact ih k (by simpa using hk) (by simpa using hx) (cbyte s b) (cbyte_lt s b hs) h
theorem crc_set (l : List UInt8) (k : Nat) (hk : k < l.length) (x : UInt8) (hx : x ≠ l[k]) : crc (l.set k x) ≠ crc l := by
  intro h
  have h1 := crcFrom_lt (l.set k x) 4294967295 (by omega)
  have h2 := crcFrom_lt l 4294967295 (by omega)
  unfold crc at h
  exact crcFrom_set l k hk x hx 4294967295 (by omega) (by omega)

theorem numAt_congr (a b : List UInt8) (i : Nat) (h : ∀ j, j < 4 → a.getD (i + j) 0 = b.getD (i + j) 0) : numAt a i = numAt b i := by
  have h0 := h 0 (by omega)
  have h1 := h 1 (by omega)
  have h2 := h 2 (by omega)
  have h3 := h 3 (by omega)
  simp only [Nat.add_zero] at h0
  unfold numAt
  rw [h0, h1, h2, h3]
theorem getD_set_ne (l : List UInt8) (k j : Nat) (x : UInt8) (h : k ≠ j) : (l.set k x).getD j 0 = l.getD j 0 := by
  simp [List.getD, List.getElem?_set, h]
theorem getD_set_eq (l : List UInt8) (k : Nat) (x : UInt8) (h : k < l.length) : (l.set k x).getD k 0 = x := by
  simp [List.getD, h]
theorem numAt_set (l : List UInt8) (i k : Nat) (x : UInt8) (hk : k < l.length) (h1 : i ≤ k) (h2 : k < i + 4) (hx : x ≠ l[k]) : numAt (l.set k x) i ≠ numAt l i := by
  have e : l.getD k 0 = l[k] := by simp [List.getD, hk]
  have hne : x.toNat ≠ l[k].toNat := fun h => hx (UInt8.toNat_inj.1 h)
  have b1 := x.toNat_lt
  have b2 := l[k].toNat_lt
  unfold numAt num4
  rcases (show k = i ∨ k = i + 1 ∨ k = i + 2 ∨ k = i + 3 by omega) with rfl | rfl | rfl | rfl
  · rw [getD_set_eq _ _ _ hk, getD_set_ne _ _ _ _ (by omega), getD_set_ne _ _ _ _ (by omega), getD_set_ne _ _ _ _ (by omega), e]; omega
  · rw [getD_set_ne _ _ _ _ (by omega), getD_set_eq _ _ _ hk, getD_set_ne _ _ _ _ (by omega), getD_set_ne _ _ _ _ (by omega), e]; omega
  · rw [getD_set_ne _ _ _ _ (by omega), getD_set_ne _ _ _ _ (by omega), getD_set_eq _ _ _ hk, getD_set_ne _ _ _ _ (by omega), e]; omega
  · rw [getD_set_ne _ _ _ _ (by omega), getD_set_ne _ _ _ _ (by omega), getD_set_ne _ _ _ _ (by omega), getD_set_eq _ _ _ hk, e]; omega
theorem numAt_four (n : Nat) (hn : n < 4294967296) (a b : List UInt8) : numAt (a ++ four n ++ b) a.length = n := by
  have e : ∀ j, j < 4 → (a ++ four n ++ b).getD (a.length + j) 0 = (four n).getD j 0 := by
    intro j hj
    simp only [List.getD]
    rw [List.append_assoc, List.getElem?_append_right (by omega), Nat.add_sub_cancel_left, List.getElem?_append_left (by simpa [four] using hj)]
  have e0 := e 0 (by omega)
  simp only [Nat.add_zero] at e0
  unfold numAt
  rw [e0, e 1 (by omega), e 2 (by omega), e 3 (by omega)]
  simp only [four, num4, List.getD, List.getElem?_cons_zero, List.getElem?_cons_succ, Option.getD_some, UInt8.toNat_ofNat']
  omega
theorem frame_num (p : List UInt8) (h : p.length ≤ 1048576) : numAt (frame p) 0 = p.length := by
  have := numAt_four p.length (by omega) [] (p ++ four (crc (four p.length ++ p)))
  simpa [frame] using this
theorem frame_sum (p : List UInt8) : numAt (frame p) (p.length + 4) = crc (four p.length ++ p) := by
  have := numAt_four (crc (four p.length ++ p)) (crc_lt _) (four p.length ++ p) []
  have e : (four p.length ++ p).length = p.length + 4 := by simp [four_length]; omega
  rw [e] at this
  simpa [frame] using this
theorem frame_take (p : List UInt8) : (frame p).take (p.length + 4) = four p.length ++ p := by
  have e : (four p.length ++ p).length = p.length + 4 := by simp [four_length]; omega
  rw [frame, ← e, List.take_left]
/-- what was framed is opened -/
theorem open_frame (p : List UInt8) (h : p.length ≤ 1048576) (more : List UInt8) : openE (frame p ++ more) = 0 ∧ openP (frame p ++ more) = p ∧ openN (frame p ++ more) = p.length + 8 := by
  have hl : (frame p ++ more).length = p.length + 8 + more.length := by simp [frame_length]
  have hn : numAt (frame p ++ more) 0 = p.length := by
    have := numAt_four p.length (by omega) [] (p ++ four (crc (four p.length ++ p)) ++ more)
    simpa [frame] using this
  have hs : numAt (frame p ++ more) (p.length + 4) = crc (four p.length ++ p) := by
    have := numAt_four (crc (four p.length ++ p)) (crc_lt _) (four p.length ++ p) more
    have e : (four p.length ++ p).length = p.length + 4 := by simp [four_length]; omega
    rw [e] at this
    simpa [frame] using this
  have ht : (frame p ++ more).take (p.length + 4) = four p.length ++ p := by
    rw [List.take_append_of_le_length (by rw [frame_length]; omega), frame_take]
  have hE : openE (frame p ++ more) = 0 := by
    unfold openE
    rw [hn, hs, ht, hl, if_neg (by omega), if_neg (by omega), if_neg (by omega), if_neg (by simp)]
  refine ⟨hE, ?_, by simp [openN, hE, hn]⟩
  simp only [openP, hE, ↓reduceIte, hn]
  have e : frame p ++ more = four p.length ++ (p ++ (four (crc (four p.length ++ p)) ++ more)) := by simp [frame]
  rw [e, List.drop_append_of_le_length (by simp [four_length]), List.drop_of_length_le (by simp [four_length])]
  simp
theorem turned (p : List UInt8) (h : p.length ≤ 1048576) (k : Nat) (hk : k < (frame p).length) (x : UInt8) (hx : x ≠ (frame p)[k]) :
    openE ((frame p).set k x) ≠ 0 ∨ (k < 4 ∧ openN ((frame p).set k x) < (frame p).length) := by
  have hl : ((frame p).set k x).length = p.length + 8 := by simp [frame_length]
  have hfl := frame_length p
  by_cases hE : openE ((frame p).set k x) = 0
  · right
    have h4 : ¬ ((frame p).set k x).length < 4 := by omega
    by_cases hk4 : k < 4
    · refine ⟨hk4, ?_⟩
      have h1 := numAt_set (frame p) 0 k x hk (by omega) (by omega) hx
      rw [frame_num p h] at h1
      simp only [openN, hE, ↓reduceIte]
      unfold openE at hE
      rw [if_neg h4] at hE
      split at hE
      · cases hE
      · split at hE
        · cases hE
        · omega
    · exfalso
      have hn : numAt ((frame p).set k x) 0 = p.length := by
        rw [numAt_congr ((frame p).set k x) (frame p) 0 (fun j hj => getD_set_ne _ _ _ _ (by omega)), frame_num p h]
      unfold openE at hE
      rw [if_neg h4, hn, if_neg (by omega), if_neg (by omega)] at hE
      split at hE
      · cases hE
      · rename_i hc
        have hc : crc (((frame p).set k x).take (p.length + 4)) = numAt ((frame p).set k x) (p.length + 4) := by simpa using hc
        by_cases hd : k < p.length + 4
        · rw [List.take_set, numAt_congr ((frame p).set k x) (frame p) (p.length + 4) (fun j hj => getD_set_ne _ _ _ _ (by omega)), frame_sum, frame_take] at hc
          have hk2 : k < (four p.length ++ p).length := by simp [four_length]; omega
          refine crc_set (four p.length ++ p) k hk2 x ?_ hc
          have e : (frame p)[k] = (four p.length ++ p)[k] := by
            simp only [frame]
            rw [List.getElem_append_left hk2]
          rw [← e]; exact hx
        · rw [List.take_set_of_le (by omega), frame_take, ← frame_sum] at hc
          exact numAt_set (frame p) (p.length + 4) k x hk (by omega) (by omega) hx hc.symm
  · exact .inl hE
end Go.Proofs.YtocjfiahkdpicaaDoor
