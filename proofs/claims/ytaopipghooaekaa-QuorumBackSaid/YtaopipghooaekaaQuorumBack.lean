/- muntinlaw22.QuorumBack: the walk (printed by wip/gen/back22.py). -/
import Derived.Test.YtaopipghooaekaaQuorumMeets
import Derived.Test.YtaopipghooaekaaQBackPlain
import Derived.Test.YtaopipghooaekaaQSame
import Derived.Deep.RegionHeld3
set_option linter.unusedVariables false
set_option linter.unusedSimpArgs false
namespace Go.Proofs.Ytaopipghooaekaa
open Go.RowKit

/-- what the law's variables hold -/
structure Bk (B1 B2 B3 : Nat) (A : Option Addr) (n c : Nat) (ns : List Int) (A6 : Option Addr) (m6 c6 : Nat) (ms : List Int) (A7 : Option Addr) (c7 : Nat) (w : World) : Prop where
  c1 : w.cell? ⟨B1, 0, none⟩ = some (.slice A n c)
  c2 : w.cell? ⟨B2, 0, none⟩ = some (.slice A6 m6 c6)
  c3 : w.cell? ⟨B3, 0, none⟩ = some (.slice A7 n c7)
  h1 : B1 < w.heap.size
  h2 : B2 < w.heap.size
  h3 : B3 < w.heap.size
  r1 : RI w A ns
  r2 : RI w A6 ms
  r3 : RI w A7 ns
theorem Bk.below {B1 B2 B3 : Nat} {A : Option Addr} {n c : Nat} {ns : List Int} {A6 : Option Addr} {m6 c6 : Nat} {ms : List Int} {A7 : Option Addr} {c7 : Nat} {w w' : World} (h : Bk B1 B2 B3 A n c ns A6 m6 c6 ms A7 c7 w) (b : Below w.heap.size w w') :
    Bk B1 B2 B3 A n c ns A6 m6 c6 ms A7 c7 w' :=
  ⟨by rw [b.cell (by exact h.h1)]; exact h.c1, by rw [b.cell (by exact h.h2)]; exact h.c2, by rw [b.cell (by exact h.h3)]; exact h.c3, Nat.lt_of_lt_of_le h.h1 b.size, Nat.lt_of_lt_of_le h.h2 b.size, Nat.lt_of_lt_of_le h.h3 b.size, h.r1.below b, h.r2.below b, h.r3.below b⟩
theorem change_err {ns : List Int} {kind who : Int} (h : (changeT ns kind who).1 ≠ 0) : (changeT ns kind who).2 = [] := by
  unfold changeT at h ⊢
  repeat' (split at h)
  all_goals simp_all

set_option maxRecDepth 100000 in
set_option maxHeartbeats 2000000 in
theorem back_bad (A : Option Addr) (n c : Nat) (ns : List Int) (kind who : Int) (w : World) (hr : RI w A ns) (hl : ns.length = n) (hn : n ≤ 100000000000000) (he : (changeT ns kind who).1 ≠ 0) :
    Calls Try.prog 5 #[.agg #[.slice A n c], .int .i64 kind, .int .i64 who] w fun e w' => e = .returned (.bool true) ∧ Below w.heap.size w w' := by
  have HCH := Lib.hid fun (w1 : World) (h : Below w.heap.size w w1) => (change_any A n c ns kind who w1 (hr.below h) hl hn).mono fun e w' ⟨V, h1, ⟨A6, c6, h2, h3, _⟩, h5⟩ => (⟨A6, c6, by rw [h1, h2, errQ_no he, change_err he]; rfl, h5⟩ : ∃ A6 c6, e = Ending.returned (.tuple #[.agg #[.slice A6 0 c6], .iface 45 (.int .i64 (changeT ns kind who).1)]) ∧ Below w1.heap.size w1 w')
  generalize (changeT ns kind who).1 = k at HCH
  clear he hr hl
  go_enter Try.func5, Try.ntmps5
  go_wp2_with (first
    | (go_at_call 7; refine (small_any _).mono ?_; rintro e w1 ⟨rfl, b1⟩; (have B1 := box_below b1); have q0 := box_cell b1)
    | (go_at_call 8; refine (HCH.out _ (box_below b1)).mono ?_; rintro e w2 ⟨A6, c6, rfl, b2⟩; (have b12 := below_then b1 b1.size b2); have B2 := box_below b12))
  go_ret
  exact ⟨rfl, B2.alloc B2.size _⟩

/-- what the last region's loads read, and what its calls ask -/
theorem bk_keep {B1 B2 B3 : Nat} {A : Option Addr} {n c : Nat} {ns : List Int} {A6 : Option Addr} {m6 c6 : Nat} {ms : List Int} {A7 : Option Addr} {c7 : Nat} {w0 w w' : World} (b : Below w.heap.size w w')
    (h : w.cell? ⟨B1, 0, none⟩ = some (.slice A n c) ∧ w.cell? ⟨B2, 0, none⟩ = some (.slice A6 m6 c6) ∧ w.cell? ⟨B3, 0, none⟩ = some (.slice A7 n c7) ∧ RI w A ns ∧ RI w A6 ms ∧ RI w A7 ns ∧ Below w0.heap.size w0 w) :
    w'.cell? ⟨B1, 0, none⟩ = some (.slice A n c) ∧ w'.cell? ⟨B2, 0, none⟩ = some (.slice A6 m6 c6) ∧ w'.cell? ⟨B3, 0, none⟩ = some (.slice A7 n c7) ∧ RI w' A ns ∧ RI w' A6 ms ∧ RI w' A7 ns ∧ Below w0.heap.size w0 w' :=
  ⟨below_cell b h.1, below_cell b h.2.1, below_cell b h.2.2.1, h.2.2.2.1.below b, h.2.2.2.2.1.below b, h.2.2.2.2.2.1.below b, below_then h.2.2.2.2.2.2 h.2.2.2.2.2.2.size b⟩

theorem has_at {A : Option Addr} {n c : Nat} {ns : List Int} {who : Int} {w : World} (q : Bool) (hr : RI w A ns) (h : Hid (ns.length = n ∧ ns.contains who = q)) (hn : n ≤ 100000000000000) :
    Calls Try.prog 14 #[.agg #[.slice A n c], .int .i64 who] w fun e w' => e = .returned (.bool q) ∧ Below w.heap.size w w' := by
  have := has_any A n c ns who w hr h.out.1 hn
  rwa [h.out.2] at this

set_option maxRecDepth 100000 in
set_option maxHeartbeats 1000000 in
theorem back_1 (A : Option Addr) (n c : Nat) (ns : List Int) (who : Int) (w : World) (hr : RI w A ns) (hl : ns.length = n) (hn : n ≤ 100000000000000) (he : (changeT ns 1 who).1 = 0) :
    Calls Try.prog 5 #[.agg #[.slice A n c], .int .i64 1, .int .i64 who] w fun e w' => e = .returned (.bool true) ∧ Below w.heap.size w w' := by
  obtain ⟨hb1, hb2⟩ := change_back he
  have hmm := change_meets he
  have hms1 : rightB (changeT ns 1 who).2 = true := by have := hmm.2.1; simp only [meetB, Bool.and_eq_true] at this; exact this.1.1
  have hlen := right_len hms1
  obtain ⟨ms, hms⟩ : ∃ ms, ms = (changeT ns 1 who).2 := ⟨_, rfl⟩
  obtain ⟨m6, hm6⟩ : ∃ m, m = ms.length := ⟨_, rfl⟩
  have HC1 := Lib.hid fun (w1 : World) (h : Below w.heap.size w w1) => (change_any A n c ns 1 who w1 (hr.below h) hl hn).mono fun e w' ⟨V, h1, ⟨A6, c6, h2, h3, _⟩, h5⟩ => (⟨A6, c6, by rw [h1, h2, he, errQ_zero, hm6, hms], by rw [hms]; exact h3, h5⟩ : ∃ A6 c6, e = Ending.returned (.tuple #[.agg #[.slice A6 m6 c6], .nilIface]) ∧ RI w' A6 ms ∧ Below w1.heap.size w1 w')
  rw [← hms] at hb1 hb2 hlen
  have HC2 := Lib.hid fun (w1 : World) (A6 : Option Addr) (c6 : Nat) (h : RI w1 A6 ms) => (change_any A6 m6 c6 ms (3 - 1) who w1 h hm6.symm (by omega)).mono fun e w' ⟨V, h1, ⟨A7, c7, h2, h3, _⟩, h5⟩ => (⟨A7, c7, by rw [h1, h2, hb1, errQ_zero, ← hl], by rw [hb1] at h3; exact h3, h5⟩ : ∃ A7 c7, e = Ending.returned (.tuple #[.agg #[.slice A7 n c7], .nilIface]) ∧ RI w' A7 ns ∧ Below w1.heap.size w1 w')
  simp only [show (3 : Int) - 1 = 2 from rfl] at HC2
  have HSM := Lib.hid fun (w1 : World) (A7 : Option Addr) (c7 : Nat) (h : RI w1 A ns) (h' : RI w1 A7 ns) => (same_eq A n c ns A7 c7 ns w1 h hl hn h' hl).mono fun e w' ⟨h1, h2⟩ => (⟨by rw [h1, decide_eq_true rfl], h2⟩ : e = Ending.returned (.bool true) ∧ Below w1.heap.size w1 w')
  obtain ⟨q1, hq1⟩ : ∃ q, q = ns.contains who := ⟨_, rfl⟩
  obtain ⟨q2, hq2⟩ : ∃ q, q = ms.contains who := ⟨_, rfl⟩
  have HQ1 := Lib.hid (show ns.length = n ∧ ns.contains who = q1 from ⟨hl, hq1.symm⟩)
  have HQ2 := Lib.hid (show ms.length = m6 ∧ ms.contains who = q2 from ⟨hm6.symm, hq2.symm⟩)
  rw [← hq1, ← hq2] at hb2
  have HR := Lib.hid hr
  have HL := Lib.hid hl
  have HM6 := Lib.hid hm6
  have HD := Lib.hid hb2
  have hm6' : m6 ≤ 100000000000000 := by omega
  clear hr hl hm6 hms hb1 hb2 hmm hms1 hlen he hq1 hq2
  go_enter Try.func5, Try.ntmps5
  go_wp2_with (first
    | (go_at_call 7; refine (small_any _).mono ?_; rintro e w1 ⟨rfl, b1⟩; (have B1 := box_below b1); have q0 := box_cell b1)
    | (go_at_call 8; refine (HC2.out _ A6 c6 (r2.alloc _)).mono ?_; rintro e w3 ⟨A7, c7, rfl, r3, b3⟩)
    | (go_at_call 8; refine (HC1.out _ (box_below b1)).mono ?_; rintro e w2 ⟨A6, c6, rfl, r2, b2⟩; (have b12 := below_then b1 b1.size b2); (have B2 := box_below b12); clear q0; (have k1 := box_cell b12); (have hs : w.heap.size < w2.heap.size := by have := b12.size; simp at this; omega)))
  have hS : w3.cell? ⟨w.heap.size, 0, none⟩ = some (.slice A n c) ∧ w3.cell? ⟨w2.heap.size, 0, none⟩ = some (.slice A6 m6 c6) ∧ RI w3 A ns ∧ RI w3 A6 ms ∧ Below w.heap.size w w3 := by
    have hb := box_below b3
    refine ⟨below_cell hb k1, box_cell b3, (HR.out.below B2).below hb, r2.below hb, below_then B2 B2.size hb⟩
  have hT : (w3.alloc (.cells #[.slice A7 n c7] 24)).drew.cell? ⟨w.heap.size, 0, none⟩ = some (.slice A n c) ∧ (w3.alloc (.cells #[.slice A7 n c7] 24)).drew.cell? ⟨w2.heap.size, 0, none⟩ = some (.slice A6 m6 c6) ∧ (w3.alloc (.cells #[.slice A7 n c7] 24)).drew.cell? ⟨w3.heap.size, 0, none⟩ = some (.slice A7 n c7) ∧ RI (w3.alloc (.cells #[.slice A7 n c7] 24)).drew A ns ∧ RI (w3.alloc (.cells #[.slice A7 n c7] 24)).drew A6 ms ∧ RI (w3.alloc (.cells #[.slice A7 n c7] 24)).drew A7 ns ∧ Below w.heap.size w (w3.alloc (.cells #[.slice A7 n c7] 24)).drew := by
    have hb : Below w3.heap.size w3 (w3.alloc (.cells #[.slice A7 n c7] 24)).drew := (below_alloc w3 _).drew
    exact ⟨below_cell hb hS.1, below_cell hb hS.2.1, (by show (w3.alloc (.cells #[.slice A7 n c7] 24)).cell? _ = _; rw [World.cell?_alloc_at _ _ _ _ rfl]; rfl), hS.2.2.1.below hb, hS.2.2.2.1.below hb, r3.below hb, below_then hS.2.2.2.2 hS.2.2.2.2.size hb⟩
  clear hS
  go_region_held3 (fun w' => w'.cell? ⟨w.heap.size, 0, none⟩ = some (.slice A n c) ∧ w'.cell? ⟨w2.heap.size, 0, none⟩ = some (.slice A6 m6 c6) ∧ w'.cell? ⟨w3.heap.size, 0, none⟩ = some (.slice A7 n c7) ∧ RI w' A ns ∧ RI w' A6 ms ∧ RI w' A7 ns ∧ Below w.heap.size w w')
    (first | assumption | exact bk_keep (by assumption) (by assumption))
    (first
      | (go_at_call 13; refine (HSM.out _ A7 c7 (by go_split_ands; assumption) (by go_split_ands; assumption)).mono ?_; rintro e w4 ⟨rfl, b4⟩)
      | (go_at_call 14; refine (has_at _ (by go_split_ands; assumption) (by assumption) (by assumption)).mono ?_; rintro e w5 ⟨rfl, b5⟩))
  all_goals
    go_split_ands
    go_wp2_with fail
    go_ret
    refine ⟨?_, by assumption⟩
    have := HD.out
    cases q1 <;> cases q2 <;> first | rfl | exact absurd this (by decide)

set_option maxRecDepth 100000 in
set_option maxHeartbeats 1000000 in
theorem back_2 (A : Option Addr) (n c : Nat) (ns : List Int) (who : Int) (w : World) (hr : RI w A ns) (hl : ns.length = n) (hn : n ≤ 100000000000000) (he : (changeT ns 2 who).1 = 0) :
    Calls Try.prog 5 #[.agg #[.slice A n c], .int .i64 2, .int .i64 who] w fun e w' => e = .returned (.bool true) ∧ Below w.heap.size w w' := by
  obtain ⟨hb1, hb2⟩ := change_back he
  have hmm := change_meets he
  have hms1 : rightB (changeT ns 2 who).2 = true := by have := hmm.2.1; simp only [meetB, Bool.and_eq_true] at this; exact this.1.1
  have hlen := right_len hms1
  obtain ⟨ms, hms⟩ : ∃ ms, ms = (changeT ns 2 who).2 := ⟨_, rfl⟩
  obtain ⟨m6, hm6⟩ : ∃ m, m = ms.length := ⟨_, rfl⟩
  have HC1 := Lib.hid fun (w1 : World) (h : Below w.heap.size w w1) => (change_any A n c ns 2 who w1 (hr.below h) hl hn).mono fun e w' ⟨V, h1, ⟨A6, c6, h2, h3, _⟩, h5⟩ => (⟨A6, c6, by rw [h1, h2, he, errQ_zero, hm6, hms], by rw [hms]; exact h3, h5⟩ : ∃ A6 c6, e = Ending.returned (.tuple #[.agg #[.slice A6 m6 c6], .nilIface]) ∧ RI w' A6 ms ∧ Below w1.heap.size w1 w')
  rw [← hms] at hb1 hb2 hlen
  have HC2 := Lib.hid fun (w1 : World) (A6 : Option Addr) (c6 : Nat) (h : RI w1 A6 ms) => (change_any A6 m6 c6 ms (3 - 2) who w1 h hm6.symm (by omega)).mono fun e w' ⟨V, h1, ⟨A7, c7, h2, h3, _⟩, h5⟩ => (⟨A7, c7, by rw [h1, h2, hb1, errQ_zero, ← hl], by rw [hb1] at h3; exact h3, h5⟩ : ∃ A7 c7, e = Ending.returned (.tuple #[.agg #[.slice A7 n c7], .nilIface]) ∧ RI w' A7 ns ∧ Below w1.heap.size w1 w')
  simp only [show (3 : Int) - 2 = 1 from rfl] at HC2
  have HSM := Lib.hid fun (w1 : World) (A7 : Option Addr) (c7 : Nat) (h : RI w1 A ns) (h' : RI w1 A7 ns) => (same_eq A n c ns A7 c7 ns w1 h hl hn h' hl).mono fun e w' ⟨h1, h2⟩ => (⟨by rw [h1, decide_eq_true rfl], h2⟩ : e = Ending.returned (.bool true) ∧ Below w1.heap.size w1 w')
  obtain ⟨q1, hq1⟩ : ∃ q, q = ns.contains who := ⟨_, rfl⟩
  obtain ⟨q2, hq2⟩ : ∃ q, q = ms.contains who := ⟨_, rfl⟩
  have HQ1 := Lib.hid (show ns.length = n ∧ ns.contains who = q1 from ⟨hl, hq1.symm⟩)
  have HQ2 := Lib.hid (show ms.length = m6 ∧ ms.contains who = q2 from ⟨hm6.symm, hq2.symm⟩)
  rw [← hq1, ← hq2] at hb2
  have HR := Lib.hid hr
  have HL := Lib.hid hl
  have HM6 := Lib.hid hm6
  have HD := Lib.hid hb2
  have hm6' : m6 ≤ 100000000000000 := by omega
  clear hr hl hm6 hms hb1 hb2 hmm hms1 hlen he hq1 hq2
  go_enter Try.func5, Try.ntmps5
  go_wp2_with (first
    | (go_at_call 7; refine (small_any _).mono ?_; rintro e w1 ⟨rfl, b1⟩; (have B1 := box_below b1); have q0 := box_cell b1)
    | (go_at_call 8; refine (HC2.out _ A6 c6 (r2.alloc _)).mono ?_; rintro e w3 ⟨A7, c7, rfl, r3, b3⟩)
    | (go_at_call 8; refine (HC1.out _ (box_below b1)).mono ?_; rintro e w2 ⟨A6, c6, rfl, r2, b2⟩; (have b12 := below_then b1 b1.size b2); (have B2 := box_below b12); clear q0; (have k1 := box_cell b12); (have hs : w.heap.size < w2.heap.size := by have := b12.size; simp at this; omega)))
  have hS : w3.cell? ⟨w.heap.size, 0, none⟩ = some (.slice A n c) ∧ w3.cell? ⟨w2.heap.size, 0, none⟩ = some (.slice A6 m6 c6) ∧ RI w3 A ns ∧ RI w3 A6 ms ∧ Below w.heap.size w w3 := by
    have hb := box_below b3
    refine ⟨below_cell hb k1, box_cell b3, (HR.out.below B2).below hb, r2.below hb, below_then B2 B2.size hb⟩
  have hT : (w3.alloc (.cells #[.slice A7 n c7] 24)).drew.cell? ⟨w.heap.size, 0, none⟩ = some (.slice A n c) ∧ (w3.alloc (.cells #[.slice A7 n c7] 24)).drew.cell? ⟨w2.heap.size, 0, none⟩ = some (.slice A6 m6 c6) ∧ (w3.alloc (.cells #[.slice A7 n c7] 24)).drew.cell? ⟨w3.heap.size, 0, none⟩ = some (.slice A7 n c7) ∧ RI (w3.alloc (.cells #[.slice A7 n c7] 24)).drew A ns ∧ RI (w3.alloc (.cells #[.slice A7 n c7] 24)).drew A6 ms ∧ RI (w3.alloc (.cells #[.slice A7 n c7] 24)).drew A7 ns ∧ Below w.heap.size w (w3.alloc (.cells #[.slice A7 n c7] 24)).drew := by
    have hb : Below w3.heap.size w3 (w3.alloc (.cells #[.slice A7 n c7] 24)).drew := (below_alloc w3 _).drew
    exact ⟨below_cell hb hS.1, below_cell hb hS.2.1, (by show (w3.alloc (.cells #[.slice A7 n c7] 24)).cell? _ = _; rw [World.cell?_alloc_at _ _ _ _ rfl]; rfl), hS.2.2.1.below hb, hS.2.2.2.1.below hb, r3.below hb, below_then hS.2.2.2.2 hS.2.2.2.2.size hb⟩
  clear hS
  go_region_held3 (fun w' => w'.cell? ⟨w.heap.size, 0, none⟩ = some (.slice A n c) ∧ w'.cell? ⟨w2.heap.size, 0, none⟩ = some (.slice A6 m6 c6) ∧ w'.cell? ⟨w3.heap.size, 0, none⟩ = some (.slice A7 n c7) ∧ RI w' A ns ∧ RI w' A6 ms ∧ RI w' A7 ns ∧ Below w.heap.size w w')
    (first | assumption | exact bk_keep (by assumption) (by assumption))
    (first
      | (go_at_call 13; refine (HSM.out _ A7 c7 (by go_split_ands; assumption) (by go_split_ands; assumption)).mono ?_; rintro e w4 ⟨rfl, b4⟩)
      | (go_at_call 14; refine (has_at _ (by go_split_ands; assumption) (by assumption) (by assumption)).mono ?_; rintro e w5 ⟨rfl, b5⟩))
  all_goals
    go_split_ands
    go_wp2_with fail
    go_ret
    refine ⟨?_, by assumption⟩
    have := HD.out
    cases q1 <;> cases q2 <;> first | rfl | exact absurd this (by decide)

theorem quorumBack_walk (A : Option Addr) (n c : Nat) (ns : List Int) (kind who : Int) (w : World) (hr : RI w A ns) (hl : ns.length = n) (hn : n ≤ 100000000000000) :
    Calls Try.prog 5 #[.agg #[.slice A n c], .int .i64 kind, .int .i64 who] w fun e w' => e = .returned (.bool true) ∧ Below w.heap.size w w' := by
  by_cases he : (changeT ns kind who).1 = 0
  · obtain ⟨h1, h2, h3⟩ := change_ok he
    rcases (of_decide_eq_true h3 : kind = 1 ∨ kind = 2) with rfl | rfl
    · exact back_1 A n c ns who w hr hl hn he
    · exact back_2 A n c ns who w hr hl hn he
  · exact back_bad A n c ns kind who w hr hl hn he

theorem quorumBack_row (A : Option Addr) (c : Nat) (ns : List Int) (kind who : Int) (w : World)
    (hl : ns.length ≤ c) (hn : c ≤ 17592186044416) (hr : RI w A ns) (w1 : (Lit.int .i64 kind).wf = true) (w2 : (Lit.int .i64 who).wf = true) :
    Calls Try.prog 5 #[.agg #[.slice A ns.length c], .int .i64 kind, .int .i64 who] w fun e w' => e = .returned (.bool true) ∧ Below w.heap.size w w' :=
  quorumBack_walk A _ c ns kind who w hr rfl (by omega)
end Go.Proofs.Ytaopipghooaekaa
