/- muntinlaw16.small: it answers true. -/
import Derived.Test.YtbdokphemdkhmaaDoorSInv
import Derived.Test.YtbdokphemdkhmaaDoorCodeAny
set_option linter.unusedVariables false
set_option linter.unusedSimpArgs false
namespace Go.Proofs.YtbdokphemdkhmaaDoor
open Go.RowKit

theorem Frm.bel {w0 w w' : World} {p b : Nat} (f : Frm (fun k => k = p ∨ k = b) w w') (h : Below w0.heap.size w0 w) (hp : w0.heap.size ≤ p) (hb : w0.heap.size ≤ b) : Below w0.heap.size w0 w' := by
  have h2 : Below w0.heap.size w w' := f.below h.size (by rintro k (rfl | rfl) <;> assumption)
  exact h.trans h2

set_option maxRecDepth 100000 in
set_option maxHeartbeats 4000000 in
theorem small_any (w : World) (hE : ErrT w) : Calls Tryd.prog 7 #[] w fun e w' => e = .returned (.bool true) ∧ Below w.heap.size w w' := by
  have HE := Lib.hid hE
  clear hE
  go_enter Tryd.func7, Tryd.ntmps7
  go_wp2_with fail
  refine (new_any w).mono ?_
  rintro e w1 ⟨p, b, rfl, t1, b1⟩
  have hp := t1.1
  have hb := t1.2.1
  have T1 := Lib.hid t1
  clear t1
  go_wp2_with fail
  refine (open_any w.heap.size p b 0 [] 5 w1 T1.out b1.size (by decide) (by omega) (by omega) (by simp) (by simp)).mono ?_
  rintro e w2 ⟨gone, c2, s2, rfl, t2, p2, f2⟩
  have hs2 : gone = 0 ∧ c2 = 1 ∧ s2 = [⟨5, 0, 1, none, 0, []⟩] := by
    rcases p2 with ⟨h, _⟩ | ⟨_, h1, h2, h3⟩
    · exact absurd rfl h
    · exact ⟨h1, by simpa using h2, h3⟩
  obtain ⟨rfl, rfl, rfl⟩ := hs2
  have B2 := f2.bel b1 hp hb
  rw [show openE [] 5 = 0 from rfl, errV_zero]
  have T2 := Lib.hid t2
  clear t2 p2 f2
  go_wp2_with fail
  refine (open_any w.heap.size p b 1 _ 5 w2 T2.out B2.size (by decide) (by omega) (by omega) (by simp) (by intro s hs; simp at hs; subst hs; decide)).mono ?_
  rintro e w3 ⟨gone, c3, s3, rfl, t3, p3, f3⟩
  have hs3 : gone = 0 ∧ c3 = 1 ∧ s3 = [⟨5, 0, 1, none, 0, []⟩] := by
    rcases p3 with ⟨_, h1, h2, h3⟩ | ⟨h, _⟩
    · exact ⟨h1, h2, h3⟩
    · exact absurd h (by decide)
  obtain ⟨rfl, rfl, rfl⟩ := hs3
  have B3 := f3.bel B2 hp hb
  rw [show openE [⟨5, 0, 1, none, 0, []⟩] 5 = 1 from rfl]
  have T3 := Lib.hid t3
  clear t3 p3 f3
  go_wp2_with fail
  refine (ask_any w.heap.size p b 1 _ 5 1 w3 T3.out (by decide)).mono ?_
  rintro e w4 ⟨D4, rfl, -, b4⟩
  rw [show askK [⟨5, 0, 1, none, 0, []⟩] 5 1 = 1 from rfl]
  have B4 := below_then B3 B3.size b4
  have T4 := Lib.hid (T3.out.below b4)
  clear b4
  go_wp2_with fail
  have bA := below_alloc w4 (.cells #[.int .u8 97] 5 (1, 2))
  have hra : RD (w4.alloc (.cells #[.int .u8 97] 5 (1, 2))) (.slice (some ⟨w4.heap.size, 0, none⟩) 1 1) [97] :=
    ⟨_, _, rfl, RB.block (heap_alloc_new w4 _) rfl, by simp, by simp, fun h => by cases h⟩
  have B5 := below_then B4 B4.size bA
  refine (note_any w.heap.size p b 1 _ 5 1 (.slice (some ⟨w4.heap.size, 0, none⟩) 1 1) [97] _ (T4.out.below bA) B5.size hra (by decide) (by omega) (by omega) (by simp)).mono ?_
  rintro e w6 ⟨rfl, c6, s6, t6, p6, f6⟩
  have hs6 : ∃ A c, c6 = 2 ∧ s6 = [⟨5, 1, 2, A, c, [97]⟩] := by
    rcases p6 with ⟨h, _⟩ | ⟨_, h1, A, c, h2, _⟩
    · exact absurd (by decide) h
    · exact ⟨A, c, h1, h2⟩
  obtain ⟨A6, k6, rfl, rfl⟩ := hs6
  have B6 := f6.bel B5 hp hb
  rw [show noteE [⟨5, 0, 1, none, 0, []⟩] 5 1 [97] = 0 from by decide, errV_zero]
  have T6 := Lib.hid t6
  clear t6 p6 f6 hra bA
  go_wp2_with fail
  refine (ask_any w.heap.size p b 2 _ 5 1 w6 T6.out (by decide)).mono ?_
  rintro e w7 ⟨D7, rfl, o7, b7⟩
  rw [show askK [⟨5, 1, 2, A6, k6, [97]⟩] 5 1 = 2 from rfl]
  rw [show askR [⟨5, 1, 2, A6, k6, [97]⟩] 5 1 = [97] from rfl] at o7
  have B7 := below_then B6 B6.size b7
  have T7 := Lib.hid (T6.out.below b7)
  have O7 := Lib.hid o7.rd
  clear b7 o7
  go_wp2_with fail
  refine (ask_any w.heap.size p b 2 _ 6 1 w7 T7.out (by decide)).mono ?_
  rintro e w8 ⟨D8, rfl, -, b8⟩
  rw [show askK [⟨5, 1, 2, A6, k6, [97]⟩] 6 1 = 4 from rfl]
  have B8 := below_then B7 B7.size b8
  have T8 := Lib.hid (T7.out.below b8)
  have O8 := Lib.hid (O7.out.below b8)
  have HE8 := Lib.hid (HE.out.below B8)
  have ho8 := O8.out
  obtain ⟨B, c8, hD, hr8, -⟩ := ho8
  subst hD
  have HR8 := Lib.hid hr8
  clear b8 hr8
  go_wp2_with fail
  refine (code_any 1 w8 HE8.out).mono ?_
  rintro e w9 ⟨rfl, b9⟩
  have B9 := below_then B8 B8.size b9
  have T9 := Lib.hid (T8.out.below b9)
  have k9 : (convert 28 9 (.slice B 1 c8)).run Tryd.prog w9 = .ok (.string ⟨#[97]⟩) w9 := run_str w9 B [97] c8 (HR8.out.below b9) 9 Tryd.underlying9
  clear b9
  go_wp2_with (go_at_call 20; refine (clock_any _ p b 2 _ w9 T9.out).mono ?_; rintro e w10 ⟨rfl, rfl⟩)
  go_ret
  exact ⟨rfl, B9⟩
end Go.Proofs.YtbdokphemdkhmaaDoor
