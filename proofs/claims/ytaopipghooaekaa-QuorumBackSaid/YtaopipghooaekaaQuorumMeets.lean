/- muntinlaw22.QuorumMeets: the walk (printed by wip/gen/meets.py). -/
import Derived.Test.YtaopipghooaekaaQMeetsPlain
set_option linter.unusedVariables false
set_option linter.unusedSimpArgs false
namespace Go.Proofs.Ytaopipghooaekaa
open Go.RowKit

/-- what the law's variables hold -/
structure Mt (B1 B2 : Nat) (A : Option Addr) (n c : Nat) (ns : List Int) (A6 : Option Addr) (m6 c6 : Nat) (ms : List Int) (A2 A3 : Option Addr) (some others : List Int) (w : World) : Prop where
  c1 : w.cell? ⟨B1, 0, none⟩ = .some (.slice A n c)
  c2 : w.cell? ⟨B2, 0, none⟩ = .some (.slice A6 m6 c6)
  h1 : B1 < w.heap.size
  h2 : B2 < w.heap.size
  r1 : RI w A ns
  r2 : RI w A6 ms
  r3 : RI w A2 some
  r4 : RI w A3 others
theorem Mt.below {B1 B2 : Nat} {A : Option Addr} {n c : Nat} {ns : List Int} {A6 : Option Addr} {m6 c6 : Nat} {ms : List Int} {A2 A3 : Option Addr} {some others : List Int} {w w' : World} (h : Mt B1 B2 A n c ns A6 m6 c6 ms A2 A3 some others w) (b : Below w.heap.size w w') :
    Mt B1 B2 A n c ns A6 m6 c6 ms A2 A3 some others w' :=
  ⟨by rw [b.cell (by exact h.h1)]; exact h.c1, by rw [b.cell (by exact h.h2)]; exact h.c2, Nat.lt_of_lt_of_le h.h1 b.size, Nat.lt_of_lt_of_le h.h2 b.size, h.r1.below b, h.r2.below b, h.r3.below b, h.r4.below b⟩
theorem mt_new {w w2 : World} {A : Option Addr} {n c : Nat} {ns : List Int} {A6 : Option Addr} {m6 c6 : Nat} {ms : List Int} {A2 A3 : Option Addr} {some others : List Int} {t t2 : TypeId}
    (r1 : RI w A ns) (r3 : RI w A2 some) (r4 : RI w A3 others) (r2 : RI w2 A6 ms) (b : Below (w.alloc (.cells #[.slice A n c] t)).heap.size (w.alloc (.cells #[.slice A n c] t)) w2) :
    Mt w.heap.size w2.heap.size A n c ns A6 m6 c6 ms A2 A3 some others (w2.alloc (.cells #[.slice A6 m6 c6] t2)) := by
  have hs : w.heap.size < w2.heap.size := by have := b.size; simp at this; omega
  have bb := box_below b
  refine ⟨?_, ?_, by simp; omega, by simp, (r1.below bb).alloc _, r2.alloc _, (r3.below bb).alloc _, (r4.below bb).alloc _⟩
  · rw [World.cell?_alloc_lt _ _ _ (by exact hs)]
    exact box_cell b
  · rw [World.cell?_alloc_at _ _ _ _ rfl]
    rfl
theorem errQ_no {k : Nat} (h : k ≠ 0) : errQ k = .iface 45 (.int .i64 k) := by unfold errQ; rw [if_neg h]

set_option maxRecDepth 100000 in
set_option maxHeartbeats 2000000 in
theorem meets_bad (A : Option Addr) (n c : Nat) (ns : List Int) (kind who : Int) (A2 : Option Addr) (n2 c2 : Nat) (some : List Int) (A3 : Option Addr) (n3 c3 : Nat) (others : List Int) (w : World)
    (hr : RI w A ns) (hl : ns.length = n) (hn : n ≤ 100000000000000) (hr2 : RI w A2 some) (hl2 : some.length = n2) (hn2 : n2 ≤ 100000000000000) (hr3 : RI w A3 others) (hl3 : others.length = n3) (hn3 : n3 ≤ 100000000000000) (he : (changeT ns kind who).1 ≠ 0) :
    Calls Try.prog 3 #[.agg #[.slice A n c], .int .i64 kind, .int .i64 who, .slice A2 n2 c2, .slice A3 n3 c3] w fun e w' => e = .returned (.bool true) ∧ Below w.heap.size w w' := by
  have HR := Lib.hid hr
  have HR2 := Lib.hid hr2
  have HR3 := Lib.hid hr3
  have HL := Lib.hid hl
  have HL2 := Lib.hid hl2
  have HL3 := Lib.hid hl3
  have HCH := Lib.hid fun (w1 : World) (h : Below w.heap.size w w1) => (change_any A n c ns kind who w1 (hr.below h) hl hn).mono fun e w' ⟨V, h1, ⟨A6, c6, h2, h3, _⟩, h5⟩ => (⟨A6, _, c6, by rw [h1, h2, errQ_no he], rfl, h3, h5⟩ : ∃ A6 m6 c6, e = Ending.returned (.tuple #[.agg #[.slice A6 m6 c6], .iface 45 (.int .i64 (changeT ns kind who).1)]) ∧ m6 = (changeT ns kind who).2.length ∧ RI w' A6 (changeT ns kind who).2 ∧ Below w1.heap.size w1 w')
  generalize (changeT ns kind who).1 = k at HCH
  clear he
  clear hr hl hr2 hl2 hr3 hl3
  go_enter Try.func3, Try.ntmps3
  go_wp2_with (first
    | (go_at_call 7; refine (small_any _).mono ?_; rintro e w1 ⟨rfl, b1⟩; (have B1 := box_below b1); have q0 := box_cell b1)
    | (go_at_call 8; refine (HCH.out _ (box_below b1)).mono ?_; rintro e w2 ⟨A6, m6, c6, rfl, hm6, r2, b2⟩; (have b12 := below_then b1 b1.size b2); (have B2 := box_below b12); clear q0; (have q1 := box_cell b12); (have hs : w.heap.size < w2.heap.size := by have := b12.size; simp at this; omega)))
  go_ret
  exact ⟨rfl, (B2.alloc B2.size _)⟩

set_option maxRecDepth 100000 in
set_option maxHeartbeats 2000000 in
theorem meets_w1 (A : Option Addr) (n c : Nat) (ns : List Int) (kind who : Int) (A2 : Option Addr) (n2 c2 : Nat) (some : List Int) (A3 : Option Addr) (n3 c3 : Nat) (others : List Int) (w : World)
    (hr : RI w A ns) (hl : ns.length = n) (hn : n ≤ 100000000000000) (hr2 : RI w A2 some) (hl2 : some.length = n2) (hn2 : n2 ≤ 100000000000000) (hr3 : RI w A3 others) (hl3 : others.length = n3) (hn3 : n3 ≤ 100000000000000) (he : (changeT ns kind who).1 = 0) (hw1 : wonB ns some = false) :
    Calls Try.prog 3 #[.agg #[.slice A n c], .int .i64 kind, .int .i64 who, .slice A2 n2 c2, .slice A3 n3 c3] w fun e w' => e = .returned (.bool true) ∧ Below w.heap.size w w' := by
  have HR := Lib.hid hr
  have HR2 := Lib.hid hr2
  have HR3 := Lib.hid hr3
  have HL := Lib.hid hl
  have HL2 := Lib.hid hl2
  have HL3 := Lib.hid hl3
  have hmm := change_meets he
  have hms1 : rightB (changeT ns kind who).2 = true := by have := hmm.2.1; simp only [meetB, Bool.and_eq_true] at this; exact this.1.1
  have HCH := Lib.hid fun (w1 : World) (h : Below w.heap.size w w1) => (change_any A n c ns kind who w1 (hr.below h) hl hn).mono fun e w' ⟨V, h1, ⟨A6, c6, h2, h3, _⟩, h5⟩ => (⟨A6, _, c6, by rw [h1, h2, he, errQ_zero], rfl, h3, h5⟩ : ∃ A6 m6 c6, e = Ending.returned (.tuple #[.agg #[.slice A6 m6 c6], .nilIface]) ∧ m6 = (changeT ns kind who).2.length ∧ RI w' A6 (changeT ns kind who).2 ∧ Below w1.heap.size w1 w')
  obtain ⟨ms, hms⟩ : ∃ ms, ms = (changeT ns kind who).2 := ⟨_, rfl⟩
  rw [← hms] at HCH hmm hms1
  have HM := Lib.hid hmm
  have HMS := Lib.hid (right_len hms1)
  have HW1 := Lib.hid hw1
  clear hms hmm hms1 he hw1
  clear hr hl hr2 hl2 hr3 hl3
  go_enter Try.func3, Try.ntmps3
  go_wp2_with (first
    | (go_at_call 7; refine (small_any _).mono ?_; rintro e w1 ⟨rfl, b1⟩; (have B1 := box_below b1); have q0 := box_cell b1)
    | (go_at_call 8; refine (HCH.out _ (box_below b1)).mono ?_; rintro e w2 ⟨A6, m6, c6, rfl, hm6, r2, b2⟩; (have b12 := below_then b1 b1.size b2); (have B2 := box_below b12); clear q0; (have q1 := box_cell b12); (have hs : w.heap.size < w2.heap.size := by have := b12.size; simp at this; omega); (have mt := mt_new (t2 := 24) (A6 := A6) (m6 := m6) (c6 := c6) HR.out HR2.out HR3.out r2 b12); (have B3 := B2.alloc B2.size (.cells #[.slice A6 m6 c6] 24)); (have hm6' : m6 ≤ 100000000000000 := by have := HMS.out; omega); (have HM6 := Lib.hid hm6); clear hm6)
    | (go_at_call 9; refine (meet_any A n c ns A6 m6 c6 ms _ mt.r1 HL.out hn mt.r2 HM6.out.symm hm6').mono ?_; rw [HM.out.1]; rintro e w4 ⟨rfl, b4⟩; (have mt4 := mt.below b4); (have B4 := below_then B3 B3.size b4); clear mt B3 q1 hs; (have q1 := mt4.c1); (have q2 := mt4.c2))
    | (go_at_call 9; refine (meet_any A6 m6 c6 ms A n c ns _ mt4.r2 HM6.out.symm hm6' mt4.r1 HL.out hn).mono ?_; rw [HM.out.2.1]; rintro e w5 ⟨rfl, b5⟩; (have mt5 := mt4.below b5); (have B5 := below_then B4 B4.size b5); clear mt4 B4 q1 q2; (have q1 := mt5.c1); (have q2 := mt5.c2))
    | (go_at_call 9; refine (meet_any A n c ns A n c ns _ mt5.r1 HL.out hn mt5.r1 HL.out hn).mono ?_; rw [HM.out.2.2]; rintro e w6 ⟨rfl, b6⟩; (have mt6 := mt5.below b6); (have B6 := below_then B5 B5.size b6); clear mt5 B5 q1 q2; (have q1 := mt6.c1); (have q2 := mt6.c2))
    | (go_at_call 10; refine (won_any A n c ns A2 n2 c2 some _ mt6.r1 HL.out hn mt6.r3 HL2.out hn2).mono ?_; rw [HW1.out]; rintro e w7 ⟨rfl, b7⟩; (have mt7 := mt6.below b7); (have B7 := below_then B6 B6.size b7); clear mt6 q1 q2; (have q1 := mt7.c1); (have q2 := mt7.c2)))
  go_ret
  exact ⟨rfl, B7⟩

set_option maxRecDepth 100000 in
set_option maxHeartbeats 2000000 in
theorem meets_w2 (A : Option Addr) (n c : Nat) (ns : List Int) (kind who : Int) (A2 : Option Addr) (n2 c2 : Nat) (some : List Int) (A3 : Option Addr) (n3 c3 : Nat) (others : List Int) (w : World)
    (hr : RI w A ns) (hl : ns.length = n) (hn : n ≤ 100000000000000) (hr2 : RI w A2 some) (hl2 : some.length = n2) (hn2 : n2 ≤ 100000000000000) (hr3 : RI w A3 others) (hl3 : others.length = n3) (hn3 : n3 ≤ 100000000000000) (he : (changeT ns kind who).1 = 0) (hw1 : wonB ns some = true) (hw2 : wonB (changeT ns kind who).2 others = false) :
    Calls Try.prog 3 #[.agg #[.slice A n c], .int .i64 kind, .int .i64 who, .slice A2 n2 c2, .slice A3 n3 c3] w fun e w' => e = .returned (.bool true) ∧ Below w.heap.size w w' := by
  have HR := Lib.hid hr
  have HR2 := Lib.hid hr2
  have HR3 := Lib.hid hr3
  have HL := Lib.hid hl
  have HL2 := Lib.hid hl2
  have HL3 := Lib.hid hl3
  have hmm := change_meets he
  have hms1 : rightB (changeT ns kind who).2 = true := by have := hmm.2.1; simp only [meetB, Bool.and_eq_true] at this; exact this.1.1
  have HCH := Lib.hid fun (w1 : World) (h : Below w.heap.size w w1) => (change_any A n c ns kind who w1 (hr.below h) hl hn).mono fun e w' ⟨V, h1, ⟨A6, c6, h2, h3, _⟩, h5⟩ => (⟨A6, _, c6, by rw [h1, h2, he, errQ_zero], rfl, h3, h5⟩ : ∃ A6 m6 c6, e = Ending.returned (.tuple #[.agg #[.slice A6 m6 c6], .nilIface]) ∧ m6 = (changeT ns kind who).2.length ∧ RI w' A6 (changeT ns kind who).2 ∧ Below w1.heap.size w1 w')
  obtain ⟨ms, hms⟩ : ∃ ms, ms = (changeT ns kind who).2 := ⟨_, rfl⟩
  rw [← hms] at HCH hmm hms1
  have HM := Lib.hid hmm
  have HMS := Lib.hid (right_len hms1)
  rw [← hms] at hw2
  have HW1 := Lib.hid hw1
  have HW2 := Lib.hid hw2
  clear hms hmm hms1 he hw1 hw2
  clear hr hl hr2 hl2 hr3 hl3
  go_enter Try.func3, Try.ntmps3
  go_wp2_with (first
    | (go_at_call 7; refine (small_any _).mono ?_; rintro e w1 ⟨rfl, b1⟩; (have B1 := box_below b1); have q0 := box_cell b1)
    | (go_at_call 8; refine (HCH.out _ (box_below b1)).mono ?_; rintro e w2 ⟨A6, m6, c6, rfl, hm6, r2, b2⟩; (have b12 := below_then b1 b1.size b2); (have B2 := box_below b12); clear q0; (have q1 := box_cell b12); (have hs : w.heap.size < w2.heap.size := by have := b12.size; simp at this; omega); (have mt := mt_new (t2 := 24) (A6 := A6) (m6 := m6) (c6 := c6) HR.out HR2.out HR3.out r2 b12); (have B3 := B2.alloc B2.size (.cells #[.slice A6 m6 c6] 24)); (have hm6' : m6 ≤ 100000000000000 := by have := HMS.out; omega); (have HM6 := Lib.hid hm6); clear hm6)
    | (go_at_call 9; refine (meet_any A n c ns A6 m6 c6 ms _ mt.r1 HL.out hn mt.r2 HM6.out.symm hm6').mono ?_; rw [HM.out.1]; rintro e w4 ⟨rfl, b4⟩; (have mt4 := mt.below b4); (have B4 := below_then B3 B3.size b4); clear mt B3 q1 hs; (have q1 := mt4.c1); (have q2 := mt4.c2))
    | (go_at_call 9; refine (meet_any A6 m6 c6 ms A n c ns _ mt4.r2 HM6.out.symm hm6' mt4.r1 HL.out hn).mono ?_; rw [HM.out.2.1]; rintro e w5 ⟨rfl, b5⟩; (have mt5 := mt4.below b5); (have B5 := below_then B4 B4.size b5); clear mt4 B4 q1 q2; (have q1 := mt5.c1); (have q2 := mt5.c2))
    | (go_at_call 9; refine (meet_any A n c ns A n c ns _ mt5.r1 HL.out hn mt5.r1 HL.out hn).mono ?_; rw [HM.out.2.2]; rintro e w6 ⟨rfl, b6⟩; (have mt6 := mt5.below b6); (have B6 := below_then B5 B5.size b6); clear mt5 B5 q1 q2; (have q1 := mt6.c1); (have q2 := mt6.c2))
    | (go_at_call 10; refine (won_any A n c ns A2 n2 c2 some _ mt6.r1 HL.out hn mt6.r3 HL2.out hn2).mono ?_; rw [HW1.out]; rintro e w7 ⟨rfl, b7⟩; (have mt7 := mt6.below b7); (have B7 := below_then B6 B6.size b7); clear mt6 q1 q2; (have q1 := mt7.c1); (have q2 := mt7.c2))
    | (go_at_call 10; refine (won_any A6 m6 c6 ms A3 n3 c3 others _ mt7.r2 HM6.out.symm hm6' mt7.r4 HL3.out hn3).mono ?_; rw [HW2.out]; rintro e w8 ⟨rfl, b8⟩; (have mt8 := mt7.below b8); (have B8 := below_then B7 B7.size b8); clear mt7 q1 q2; (have q1 := mt8.c1); (have q2 := mt8.c2)))
  go_ret
  exact ⟨rfl, B8⟩

set_option maxRecDepth 100000 in
set_option maxHeartbeats 2000000 in
theorem meets_w3 (A : Option Addr) (n c : Nat) (ns : List Int) (kind who : Int) (A2 : Option Addr) (n2 c2 : Nat) (some : List Int) (A3 : Option Addr) (n3 c3 : Nat) (others : List Int) (w : World)
    (hr : RI w A ns) (hl : ns.length = n) (hn : n ≤ 100000000000000) (hr2 : RI w A2 some) (hl2 : some.length = n2) (hn2 : n2 ≤ 100000000000000) (hr3 : RI w A3 others) (hl3 : others.length = n3) (hn3 : n3 ≤ 100000000000000) (he : (changeT ns kind who).1 = 0) (hw1 : wonB ns some = true) (hw2 : wonB (changeT ns kind who).2 others = true) :
    Calls Try.prog 3 #[.agg #[.slice A n c], .int .i64 kind, .int .i64 who, .slice A2 n2 c2, .slice A3 n3 c3] w fun e w' => e = .returned (.bool true) ∧ Below w.heap.size w w' := by
  have HR := Lib.hid hr
  have HR2 := Lib.hid hr2
  have HR3 := Lib.hid hr3
  have HL := Lib.hid hl
  have HL2 := Lib.hid hl2
  have HL3 := Lib.hid hl3
  have hmm := change_meets he
  have hms1 : rightB (changeT ns kind who).2 = true := by have := hmm.2.1; simp only [meetB, Bool.and_eq_true] at this; exact this.1.1
  have HCH := Lib.hid fun (w1 : World) (h : Below w.heap.size w w1) => (change_any A n c ns kind who w1 (hr.below h) hl hn).mono fun e w' ⟨V, h1, ⟨A6, c6, h2, h3, _⟩, h5⟩ => (⟨A6, _, c6, by rw [h1, h2, he, errQ_zero], rfl, h3, h5⟩ : ∃ A6 m6 c6, e = Ending.returned (.tuple #[.agg #[.slice A6 m6 c6], .nilIface]) ∧ m6 = (changeT ns kind who).2.length ∧ RI w' A6 (changeT ns kind who).2 ∧ Below w1.heap.size w1 w')
  obtain ⟨ms, hms⟩ : ∃ ms, ms = (changeT ns kind who).2 := ⟨_, rfl⟩
  rw [← hms] at HCH hmm hms1
  have HM := Lib.hid hmm
  have HMS := Lib.hid (right_len hms1)
  rw [← hms] at hw2
  have HSH := Lib.hid (meet_share hmm.1 hw1 hw2)
  have HW1 := Lib.hid hw1
  have HW2 := Lib.hid hw2
  clear hms hmm hms1 he hw1 hw2
  clear hr hl hr2 hl2 hr3 hl3
  go_enter Try.func3, Try.ntmps3
  go_wp2_with (first
    | (go_at_call 7; refine (small_any _).mono ?_; rintro e w1 ⟨rfl, b1⟩; (have B1 := box_below b1); have q0 := box_cell b1)
    | (go_at_call 8; refine (HCH.out _ (box_below b1)).mono ?_; rintro e w2 ⟨A6, m6, c6, rfl, hm6, r2, b2⟩; (have b12 := below_then b1 b1.size b2); (have B2 := box_below b12); clear q0; (have q1 := box_cell b12); (have hs : w.heap.size < w2.heap.size := by have := b12.size; simp at this; omega); (have mt := mt_new (t2 := 24) (A6 := A6) (m6 := m6) (c6 := c6) HR.out HR2.out HR3.out r2 b12); (have B3 := B2.alloc B2.size (.cells #[.slice A6 m6 c6] 24)); (have hm6' : m6 ≤ 100000000000000 := by have := HMS.out; omega); (have HM6 := Lib.hid hm6); clear hm6)
    | (go_at_call 9; refine (meet_any A n c ns A6 m6 c6 ms _ mt.r1 HL.out hn mt.r2 HM6.out.symm hm6').mono ?_; rw [HM.out.1]; rintro e w4 ⟨rfl, b4⟩; (have mt4 := mt.below b4); (have B4 := below_then B3 B3.size b4); clear mt B3 q1 hs; (have q1 := mt4.c1); (have q2 := mt4.c2))
    | (go_at_call 9; refine (meet_any A6 m6 c6 ms A n c ns _ mt4.r2 HM6.out.symm hm6' mt4.r1 HL.out hn).mono ?_; rw [HM.out.2.1]; rintro e w5 ⟨rfl, b5⟩; (have mt5 := mt4.below b5); (have B5 := below_then B4 B4.size b5); clear mt4 B4 q1 q2; (have q1 := mt5.c1); (have q2 := mt5.c2))
    | (go_at_call 9; refine (meet_any A n c ns A n c ns _ mt5.r1 HL.out hn mt5.r1 HL.out hn).mono ?_; rw [HM.out.2.2]; rintro e w6 ⟨rfl, b6⟩; (have mt6 := mt5.below b6); (have B6 := below_then B5 B5.size b6); clear mt5 B5 q1 q2; (have q1 := mt6.c1); (have q2 := mt6.c2))
    | (go_at_call 10; refine (won_any A n c ns A2 n2 c2 some _ mt6.r1 HL.out hn mt6.r3 HL2.out hn2).mono ?_; rw [HW1.out]; rintro e w7 ⟨rfl, b7⟩; (have mt7 := mt6.below b7); (have B7 := below_then B6 B6.size b7); clear mt6 q1 q2; (have q1 := mt7.c1); (have q2 := mt7.c2))
    | (go_at_call 10; refine (won_any A6 m6 c6 ms A3 n3 c3 others _ mt7.r2 HM6.out.symm hm6' mt7.r4 HL3.out hn3).mono ?_; rw [HW2.out]; rintro e w8 ⟨rfl, b8⟩; (have mt8 := mt7.below b8); (have B8 := below_then B7 B7.size b8); clear mt7 q1 q2; (have q1 := mt8.c1); (have q2 := mt8.c2)))
  go_loopg [14] n2 (fun q ii wr => ∃ i : Nat, q = n2 - i ∧ i ≤ n2 ∧ ii = .int .i64 i ∧ Hid (∀ x ∈ some.take i, x ∉ others) ∧ Below w8.heap.size w8 wr)
  case atStart => exact ⟨0, by omega, by omega, rfl, Lib.hid (by simp), Below.refl _ _⟩
  case round =>
    obtain ⟨i, hm, hi, rfl, HF, bel⟩ := hrel
    by_cases hil : i < n2
    · have hil1 : (i : Int) < (n2 : Int) := by omega
      have hie : i < some.length := by rw [HL2.out]; exact hil
      obtain ⟨g2, o2, rfl, hg2, hc2⟩ := (mt8.r3).addr (by omega)
      have hx2 := hc2 i hie
      obtain ⟨x, hx⟩ : ∃ x, x = some[i] := ⟨_, rfl⟩
      have HTX := Lib.hid (show some.take (i + 1) = some.take i ++ [x] by rw [hx]; exact List.take_succ_eq_append_getElem hie)
      rw [← hx] at hx2
      clear hc2 hx
      have HX := Lib.hid fun (w1 : World) (h : Below w8.heap.size w8 w1) => (show w1.cell? ⟨g2, o2 + i, none⟩ = .some (.int .i64 x) by rw [h.cell (by exact hg2)]; exact hx2)
      clear hx2
      go_wp2_with fail
      go_loopg [15] n3 (fun q ki wr => ∃ k : Nat, q = n3 - k ∧ k ≤ n3 ∧ ki = .int .i64 k ∧ Hid (x ∉ others.take k) ∧ Below w8.heap.size w8 wr)
      case atStart => exact ⟨0, by omega, by omega, rfl, Lib.hid (by simp), bel⟩
      case round =>
        obtain ⟨k, hm2, hk, rfl, HF2, bel2⟩ := hrel
        have hcx := HX.out _ bel2
        by_cases hkl : k < n3
        · have hkl1 : (k : Int) < (n3 : Int) := by omega
          have hke : k < others.length := by rw [HL3.out]; exact hkl
          obtain ⟨g3, o3, rfl, hg3, hc3⟩ := (mt8.r4.below bel2).addr (by omega)
          have hy3 := hc3 k hke
          obtain ⟨y, hy⟩ : ∃ y, y = others[k] := ⟨_, rfl⟩
          have HTY := Lib.hid (show others.take (k + 1) = others.take k ++ [y] by rw [hy]; exact List.take_succ_eq_append_getElem hke)
          rw [← hy] at hy3
          clear hc3 hy
          by_cases hxy : x = y
          · have dxy : (x == y) = true := beq_iff_eq.2 hxy
            clear hxy
            go_wp2_with fail
            go_quiet (fail)
            go_wp2_with fail
            go_ret
            exact ⟨rfl, below_draws (B8.trans (bel2.mono B8.size)) _⟩
          · have dxy : (x == y) = false := beq_eq_false_iff_ne.2 hxy
            have HNE := Lib.hid hxy
            clear hxy
            go_wp2_with fail
            go_quiet (fail)
            go_wp2_with fail
            go_roundg (n3 - (k + 1))
            case measure => omega
            case rel =>
              refine ⟨k + 1, rfl, by omega, by go_num, Lib.hid ?_, below_draws bel2 _⟩
              rw [HTY.out, List.mem_append, List.mem_singleton]
              rintro (h | h)
              · exact HF2.out h
              · exact HNE.out h
        · obtain rfl : k = n3 := by omega
          go_wp2_with fail
          go_roundg (n2 - (i + 1))
          case measure => omega
          case rel =>
            refine ⟨i + 1, rfl, by omega, by go_num, Lib.hid ?_, bel2⟩
            have hno := HF2.out
            rw [List.take_of_length_le (by rw [HL3.out]; exact Nat.le_refl _)] at hno
            rw [HTX.out]
            intro z hz
            rw [List.mem_append, List.mem_singleton] at hz
            rcases hz with h | rfl
            · exact HF.out z h
            · exact hno
    · obtain rfl : i = n2 := by omega
      exact absurd HSH.out (by
        rintro ⟨x, hx1, hx2⟩
        exact HF.out x (by rw [List.take_of_length_le (by rw [HL2.out]; exact Nat.le_refl _)]; exact hx1) hx2)

theorem quorumMeets_walk (A : Option Addr) (n c : Nat) (ns : List Int) (kind who : Int) (A2 : Option Addr) (n2 c2 : Nat) (some : List Int) (A3 : Option Addr) (n3 c3 : Nat) (others : List Int) (w : World)
    (hr : RI w A ns) (hl : ns.length = n) (hn : n ≤ 100000000000000) (hr2 : RI w A2 some) (hl2 : some.length = n2) (hn2 : n2 ≤ 100000000000000) (hr3 : RI w A3 others) (hl3 : others.length = n3) (hn3 : n3 ≤ 100000000000000) :
    Calls Try.prog 3 #[.agg #[.slice A n c], .int .i64 kind, .int .i64 who, .slice A2 n2 c2, .slice A3 n3 c3] w fun e w' => e = .returned (.bool true) ∧ Below w.heap.size w w' := by
  by_cases he : (changeT ns kind who).1 = 0
  · cases hw1 : wonB ns some with
    | false => exact meets_w1 A n c ns kind who A2 n2 c2 some A3 n3 c3 others w hr hl hn hr2 hl2 hn2 hr3 hl3 hn3 he hw1
    | true =>
      cases hw2 : wonB (changeT ns kind who).2 others with
      | false => exact meets_w2 A n c ns kind who A2 n2 c2 some A3 n3 c3 others w hr hl hn hr2 hl2 hn2 hr3 hl3 hn3 he hw1 hw2
      | true => exact meets_w3 A n c ns kind who A2 n2 c2 some A3 n3 c3 others w hr hl hn hr2 hl2 hn2 hr3 hl3 hn3 he hw1 hw2
  · exact meets_bad A n c ns kind who A2 n2 c2 some A3 n3 c3 others w hr hl hn hr2 hl2 hn2 hr3 hl3 hn3 he

theorem quorumMeets_row (A : Option Addr) (c : Nat) (ns : List Int) (kind who : Int) (A2 : Option Addr) (c2 : Nat) (some : List Int) (A3 : Option Addr) (c3 : Nat) (others : List Int) (w : World)
    (hl : ns.length ≤ c) (hn : c ≤ 17592186044416) (hr : RI w A ns) (w1 : (Lit.int .i64 kind).wf = true) (w2 : (Lit.int .i64 who).wf = true) (hl2 : some.length ≤ c2) (hn2 : c2 ≤ 17592186044416) (hr2 : RI w A2 some) (hl3 : others.length ≤ c3) (hn3 : c3 ≤ 17592186044416) (hr3 : RI w A3 others) :
    Calls Try.prog 3 #[.agg #[.slice A ns.length c], .int .i64 kind, .int .i64 who, .slice A2 some.length c2, .slice A3 others.length c3] w fun e w' => e = .returned (.bool true) ∧ Below w.heap.size w w' :=
  quorumMeets_walk A _ c ns kind who A2 _ c2 some A3 _ c3 others w hr rfl (by omega) hr2 rfl (by omega) hr3 rfl (by omega)
end Go.Proofs.Ytaopipghooaekaa
