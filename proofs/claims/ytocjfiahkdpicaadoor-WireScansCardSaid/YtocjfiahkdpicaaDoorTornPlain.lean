/- Of frames that are cut off those that are whole are told: in plain Lean. -/
import Derived.Test.YtocjfiahkdpicaaDoorScanPlain
set_option linter.unusedVariables false
set_option linter.unusedSimpArgs false
namespace Go.Proofs.YtocjfiahkdpicaaDoor

/-- frames one behind another -/
def frames (rows : List (List UInt8)) : List UInt8 := (rows.map frame).flatten
theorem frames_nil : frames [] = [] := rfl
theorem frames_cons (r : List UInt8) (rows : List (List UInt8)) : frames (r :: rows) = frame r ++ frames rows := rfl
theorem frames_snoc (rows : List (List UInt8)) (r : List UInt8) : frames (rows ++ [r]) = frames rows ++ frame r := by simp [frames]
/-- how many are whole -/
def tornW : List (List UInt8) → Nat → Nat
  | [], _ => 0
  | r :: rs, cut => if r.length + 8 ≤ cut then 1 + tornW rs (cut - (r.length + 8)) else 0
/-- where they end -/
def tornE : List (List UInt8) → Nat → Nat
  | [], _ => 0
  | r :: rs, cut => if r.length + 8 ≤ cut then r.length + 8 + tornE rs (cut - (r.length + 8)) else 0
theorem torn_snoc (rs : List (List UInt8)) (r : List UInt8) : ∀ cut,
    tornW (rs ++ [r]) cut = (if (frames (rs ++ [r])).length ≤ cut then rs.length + 1 else tornW rs cut) ∧
    tornE (rs ++ [r]) cut = (if (frames (rs ++ [r])).length ≤ cut then (frames (rs ++ [r])).length else tornE rs cut) := by
  induction rs with
  | nil =>
    intro cut
    simp only [List.nil_append, tornW, tornE, frames_cons, frames_nil, List.append_nil, frame_length, List.length_nil]
    by_cases h : r.length + 8 ≤ cut <;> simp [h]
  | cons a rs ih =>
    intro cut
    obtain ⟨h1, h2⟩ := ih (cut - (a.length + 8))
    simp only [List.cons_append, tornW, tornE, frames_cons, List.length_append, frame_length, List.length_cons] at h1 h2 ⊢
    rw [h1, h2]
    refine ⟨?_, ?_⟩ <;> (repeat' split) <;> omega
theorem openE_cut (r more : List UInt8) (h : r.length ≤ 1048576) (cut : Nat) (hc : cut < r.length + 8) : openE ((frame r ++ more).take cut) = 3 := by
  have hl : ((frame r ++ more).take cut).length = cut := by simp [frame_length]; omega
  unfold openE
  rw [hl]
  by_cases h4 : cut < 4
  · rw [if_pos h4]
  · have hn : numAt ((frame r ++ more).take cut) 0 = r.length := by
      rw [numAt_congr ((frame r ++ more).take cut) (frame r) 0, frame_num r h]
      intro j hj
      simp only [Nat.zero_add, List.getD, List.getElem?_take]
      rw [if_pos (by omega), List.getElem?_append_left (by rw [frame_length]; omega)]
    rw [if_neg h4, hn, if_neg (by omega), if_pos (by omega)]
theorem scan_torn (rows : List (List UInt8)) : (∀ r ∈ rows, r.length ≤ 1048576) → ∀ cut, cut ≤ (frames rows).length →
    (scan ((frames rows).take cut)).1 = rows.take (tornW rows cut) ∧ (scan ((frames rows).take cut)).2.1 = tornE rows cut ∧ ((scan ((frames rows).take cut)).2.2 = 0 ↔ tornE rows cut = cut) := by
  induction rows with
  | nil =>
    intro _ cut hc
    have : cut = 0 := by simpa [frames_nil] using hc
    subst this
    simp [frames_nil, scan_nil, tornW, tornE]
  | cons r rows ih =>
    intro hr cut hc
    have hr0 := hr r (by simp)
    have hrs : ∀ x ∈ rows, x.length ≤ 1048576 := fun x hx => hr x (by simp [hx])
    simp only [frames_cons, List.length_append, frame_length] at hc
    simp only [frames_cons, tornW, tornE]
    by_cases h0 : cut = 0
    · subst h0
      simp [scan_nil]
    · have hne : (frame r ++ frames rows).take cut ≠ [] := by
        intro h
        have := congrArg List.length h
        simp [frame_length] at this
        omega
      by_cases hlt : cut < r.length + 8
      · have hE := openE_cut r (frames rows) hr0 cut hlt
        rw [scan_err _ hne (by rw [hE]; decide), hE, if_neg (by omega), if_neg (by omega)]
        refine ⟨by simp, rfl, ?_⟩
        constructor
        · intro h; cases h
        · intro h; omega
      · have e : (frame r ++ frames rows).take cut = frame r ++ (frames rows).take (cut - (r.length + 8)) := by
          rw [List.take_append, frame_length, List.take_of_length_le (by rw [frame_length]; omega)]
        obtain ⟨h1, h2, h3⟩ := open_frame r hr0 ((frames rows).take (cut - (r.length + 8)))
        obtain ⟨i1, i2, i3⟩ := ih hrs (cut - (r.length + 8)) (by omega)
        rw [e] at hne ⊢
        have hd : (frame r ++ (frames rows).take (cut - (r.length + 8))).drop (r.length + 8) = (frames rows).take (cut - (r.length + 8)) := by
          rw [← frame_length r, List.drop_left]
        rw [scan_ok _ hne h1, h2, h3, hd, if_pos (by omega), if_pos (by omega)]
        refine ⟨?_, by rw [i2], ?_⟩
        · simp only
          rw [i1, Nat.add_comm 1]
          rfl
        · simp only
          rw [i3]
          omega
theorem tornE_le (rows : List (List UInt8)) : ∀ cut, tornE rows cut ≤ cut := by
  induction rows with
  | nil => intro cut; simp [tornE]
  | cons r rows ih => intro cut; simp only [tornE]; split; have := ih (cut - (r.length + 8)); omega; omega
theorem tornW_le (rows : List (List UInt8)) : ∀ cut, tornW rows cut ≤ rows.length := by
  induction rows with
  | nil => intro cut; simp [tornW]
  | cons r rows ih => intro cut; simp only [tornW, List.length_cons]; split; have := ih (cut - (r.length + 8)); omega; omega
end Go.Proofs.YtocjfiahkdpicaaDoor
