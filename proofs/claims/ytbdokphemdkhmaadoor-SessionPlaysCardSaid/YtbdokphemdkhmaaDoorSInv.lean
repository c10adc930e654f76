/- What is true of every session table that was made by its own methods. Plain. -/
import Derived.Test.YtbdokphemdkhmaaDoorSOpen
set_option linter.unusedVariables false
set_option linter.unusedSimpArgs false
namespace Go.Proofs.YtbdokphemdkhmaaDoor
open Go.RowKit

structure Inv (clock : Int) (ss : List SV) : Prop where
  ris : risS ss
  len : ss.length ≤ 8
  c0 : 0 ≤ clock
  each : ∀ s ∈ ss, 1 ≤ s.i ∧ (Lit.int .i64 s.i).wf = true ∧ 0 ≤ s.l ∧ (Lit.int .i64 s.l).wf = true ∧ 1 ≤ s.u ∧ s.u ≤ clock ∧ s.r.length ≤ 16384 ∧ (s.l = 0 → s.r = [])
  used : ∀ s ∈ ss, ∀ t ∈ ss, s.u = t.u → s = t

theorem risS_del {ss : List SV} (h : risS ss) (x : Int) : risS (delS x ss) := h.filter _
theorem risS_ins {x : SV} : ∀ {ss : List SV}, risS ss → (∀ s ∈ ss, s.i ≠ x.i) → risS (insS x ss)
  | [], _, _ => by simp [insS, risS]
  | y :: r, h, hx => by
    obtain ⟨h1, h2⟩ := List.pairwise_cons.1 h
    simp only [insS]
    split
    · rename_i hlt
      refine List.pairwise_cons.2 ⟨fun q hq => ?_, h⟩
      rcases List.mem_cons.1 hq with rfl | hq
      · exact hlt
      · have := h1 q hq; omega
    · rename_i hlt
      have hy := hx y (by simp)
      refine List.pairwise_cons.2 ⟨fun q hq => ?_, risS_ins h2 fun p hp => hx p (by simp [hp])⟩
      rcases mem_insS.1 hq with rfl | hq
      · omega
      · exact h1 q hq
theorem risS_put {ss : List SV} (h : risS ss) (x : SV) : risS (putS x ss) := risS_ins (risS_del h x.i) fun s hs => (mem_delS.1 hs).2
theorem length_insS (x : SV) : ∀ ss : List SV, (insS x ss).length = ss.length + 1
  | [] => rfl
  | y :: r => by
    simp only [insS]
    split
    · rfl
    · simp [length_insS x r]
theorem risS_same {ss : List SV} (h : risS ss) {s t : SV} (hs : s ∈ ss) (ht : t ∈ ss) (e : s.i = t.i) : s = t := by
  induction ss with
  | nil => simp at hs
  | cons z l ih =>
    obtain ⟨h1, h2⟩ := List.pairwise_cons.1 h
    rcases List.mem_cons.1 hs with ea | a <;> rcases List.mem_cons.1 ht with eb | b
    · rw [ea, eb]
    · have := h1 _ b; rw [← ea] at this; omega
    · have := h1 _ a; rw [← eb] at this; omega
    · exact ih h2 a b
theorem length_delS {ss : List SV} (h : risS ss) {s : SV} (hs : s ∈ ss) : (delS s.i ss).length + 1 = ss.length := by
  induction ss with
  | nil => simp at hs
  | cons z l ih =>
    obtain ⟨h1, h2⟩ := List.pairwise_cons.1 h
    unfold delS
    rw [List.filter_cons]
    rcases List.mem_cons.1 hs with e | a
    · subst e
      simp only [beq_self_eq_true, Bool.not_true, Bool.false_eq_true, ↓reduceIte]
      rw [List.filter_eq_self.2 fun t ht => by have := h1 t ht; simp; omega]
      rfl
    · have := h1 _ a
      have hb : (z.i == s.i) = false := by simp; omega
      simp only [hb, Bool.not_false, ↓reduceIte, List.length_cons]
      have := ih h2 a
      unfold delS at this
      omega
theorem findS_none {x : Int} {ss : List SV} (h : findS x ss = none) : ∀ s ∈ ss, s.i ≠ x := by
  intro s hs e
  have := List.find?_eq_none.1 h s hs
  simp at this
  exact this e
theorem delS_none {x : Int} {ss : List SV} (h : ∀ s ∈ ss, s.i ≠ x) : delS x ss = ss := by
  unfold delS
  rw [List.filter_eq_self]
  intro s hs
  have := h s hs
  simp [this]
theorem findS_of_mem {ss : List SV} (h : risS ss) {s : SV} (hs : s ∈ ss) : findS s.i ss = some s := by
  cases hf : findS s.i ss with
  | none => exact absurd rfl (findS_none hf s hs)
  | some t => rw [risS_same h (findS_mem hf).1 hs (findS_mem hf).2]
theorem ask_one {ss : List SV} {x q : Int} (h : askK ss x q = 1) : ∃ s, findS x ss = some s ∧ s.l < q := by
  unfold askK at h
  cases hf : findS x ss with
  | none => rw [hf] at h; simp at h
  | some s =>
    rw [hf] at h
    simp only at h
    by_cases h1 : s.l < q
    · exact ⟨s, rfl, h1⟩
    · rw [if_neg h1] at h; split at h <;> simp at h
theorem ask_two {ss : List SV} {x q : Int} (h : askK ss x q = 2) : ∃ s, findS x ss = some s ∧ s.l = q ∧ askR ss x q = s.r := by
  unfold askK at h
  unfold askR
  cases hf : findS x ss with
  | none => rw [hf] at h; simp at h
  | some s =>
    rw [hf] at h
    simp only at h
    by_cases h1 : s.l < q
    · rw [if_pos h1] at h; simp at h
    · rw [if_neg h1] at h
      by_cases h2 : q < s.l ∨ q = 0
      · rw [if_pos h2] at h; simp at h
      · exact ⟨s, rfl, by omega, by simp [h1, h2]⟩
theorem note_zero {ss : List SV} {x q : Int} {r : List UInt8} (h : noteE ss x q r = 0) : askK ss x q = 1 ∧ r.length ≤ 16384 := by
  unfold noteE at h
  split at h
  · rename_i h1
    split at h
    · simp at h
    · exact ⟨h1, by omega⟩
  · simp at h
theorem open_zero {ss : List SV} {x : Int} (h : openE ss x = 0) : 1 ≤ x ∧ findS x ss = none := by
  unfold openE at h
  split at h
  · simp at h
  · rename_i h1
    refine ⟨by omega, ?_⟩
    cases hf : findS x ss with
    | none => rfl
    | some s => exact absurd (.inr (by rw [hf]; rfl)) h1
theorem dropS_mem {ss : List SV} {s : SV} (h : s ∈ dropS ss) : s ∈ ss := by
  unfold dropS at h
  split at h
  · exact (mem_delS.1 h).1
  · exact h

theorem Inv.new : Inv 0 [] := ⟨List.Pairwise.nil, by simp, by omega, by simp, by simp⟩
theorem Inv.open_ {clock : Int} {ss : List SV} {x gone clock' : Int} {ss' : List SV} (h : Inv clock ss) (hp : OpenP clock ss x gone clock' ss') (wx : (Lit.int .i64 x).wf = true) : Inv clock' ss' := by
  rcases hp with ⟨_, _, rfl, rfl⟩ | ⟨h0, _, rfl, rfl⟩
  · exact h
  · obtain ⟨h1, hf⟩ := open_zero h0
    have hx := findS_none hf
    have hr : risS (dropS ss) := by unfold dropS; split; exact risS_del h.ris _; exact h.ris
    refine ⟨risS_put hr _, ?_, by have := h.c0; omega, fun s hs => ?_, fun s hs t ht e => ?_⟩
    · unfold putS
      rw [length_insS, delS_none fun s hs => hx s (dropS_mem hs)]
      unfold dropS
      split
      · rename_i h8
        have := length_delS h.ris (minS_mem (ss := ss) (by omega))
        have := h.len
        omega
      · omega
    · rcases mem_putS.1 hs with rfl | ⟨hs, -⟩
      · exact ⟨h1, wx, by simp, by simp; decide, by have := h.c0; simp only; omega, by simp, by simp, by simp⟩
      · obtain ⟨a1, a2, a3, a4, a5, a6, a7, a8⟩ := h.each s (dropS_mem hs)
        exact ⟨a1, a2, a3, a4, a5, by omega, a7, a8⟩
    · rcases mem_putS.1 hs with rfl | ⟨hs, -⟩ <;> rcases mem_putS.1 ht with rfl | ⟨ht, -⟩
      · rfl
      · have := (h.each t (dropS_mem ht)).2.2.2.2.2.1; simp only at e; omega
      · have := (h.each s (dropS_mem hs)).2.2.2.2.2.1; simp only at e; omega
      · exact h.used s (dropS_mem hs) t (dropS_mem ht) e
theorem Inv.note {w : World} {clock : Int} {ss : List SV} {x q : Int} {r : List UInt8} {clock' : Int} {ss' : List SV} (h : Inv clock ss) (hp : NoteP w clock ss x q r clock' ss') (wx : (Lit.int .i64 x).wf = true) (wq : (Lit.int .i64 q).wf = true) : Inv clock' ss' := by
  rcases hp with ⟨_, rfl, rfl⟩ | ⟨h0, rfl, A, c, rfl, _⟩
  · exact h
  · obtain ⟨h1, hl⟩ := note_zero h0
    obtain ⟨s0, hf, hq⟩ := ask_one h1
    obtain ⟨hm, rfl⟩ := findS_mem hf
    obtain ⟨a1, a2, a3, a4, a5, a6, a7, a8⟩ := h.each s0 hm
    refine ⟨risS_put h.ris _, ?_, by have := h.c0; omega, fun s hs => ?_, fun s hs t ht e => ?_⟩
    · unfold putS
      rw [length_insS]
      have := length_delS h.ris hm
      have := h.len
      simp only
      omega
    · rcases mem_putS.1 hs with rfl | ⟨hs, -⟩
      · exact ⟨a1, wx, by simp only; omega, wq, by have := h.c0; simp only; omega, by simp, hl, fun e => by simp only at e; omega⟩
      · obtain ⟨a1, a2, a3, a4, a5, a6, a7, a8⟩ := h.each s hs
        exact ⟨a1, a2, a3, a4, a5, by omega, a7, a8⟩
    · rcases mem_putS.1 hs with rfl | ⟨hs, -⟩ <;> rcases mem_putS.1 ht with rfl | ⟨ht, -⟩
      · rfl
      · have := (h.each t ht).2.2.2.2.2.1; simp only at e; omega
      · have := (h.each s hs).2.2.2.2.2.1; simp only at e; omega
      · exact h.used s hs t ht e
end Go.Proofs.YtbdokphemdkhmaaDoor
