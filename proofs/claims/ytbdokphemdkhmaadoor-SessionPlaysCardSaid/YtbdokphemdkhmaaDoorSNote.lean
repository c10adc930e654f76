/- (*session.Table).Note: the contract. -/
import Derived.Test.YtbdokphemdkhmaaDoorSPut
set_option linter.unusedVariables false
set_option linter.unusedSimpArgs false
namespace Go.Proofs.YtbdokphemdkhmaaDoor
open Go.RowKit

def noteE (ss : List SV) (x q : Int) (r : List UInt8) : Nat := if askK ss x q = 1 then (if 16384 < r.length then 2 else 0) else 1
/-- what Note leaves -/
def NoteP (w : World) (clock : Int) (ss : List SV) (x q : Int) (r : List UInt8) (clock' : Int) (ss' : List SV) : Prop :=
  (noteE ss x q r ≠ 0 ∧ clock' = clock ∧ ss' = ss) ∨ (noteE ss x q r = 0 ∧ clock' = clock + 1 ∧ ∃ A c, ss' = putS ⟨x, q, clock + 1, A, c, r⟩ ss ∧ ∀ k, (Value.slice A r.length c).ownBlock = some k → w.heap.size ≤ k)

set_option maxRecDepth 100000 in
set_option maxHeartbeats 1000000 in
theorem note_any (base p b : Nat) (clock : Int) (ss : List SV) (x q : Int) (Dr : Value) (r : List UInt8) (w : World) (h : TB w base p b clock ss) (hb : base ≤ w.heap.size) (hr : RD w Dr r) (wx : (Lit.int .i64 x).wf = true) (hc0 : 0 ≤ clock) (hc1 : clock ≤ 4611686018427400000) (hn : ss.length ≤ 1000000) :
    Calls Tryd.prog 11 #[.pointer (some ⟨p, 0, none⟩), .int .i64 x, .int .i64 q, Dr] w fun e w' => e = .returned (errV (noteE ss x q r)) ∧ ∃ clock' ss', TB w' base p b clock' ss' ∧ NoteP w clock ss x q r clock' ss' ∧ Frm (fun k => k = p ∨ k = b) w w' := by
  have HA := Lib.hid (ask_any base p b clock ss x q w h wx)
  have H := Lib.hid h
  have HR := Lib.hid hr
  obtain ⟨B, c, hDr, -, -, hrl, -⟩ := hr
  subst hDr
  clear h
  by_cases ha : askK ss x q = 1
  · rw [ha] at HA
    by_cases hl : 16384 < r.length
    · have e1 : noteE ss x q r = 2 := by simp [noteE, ha, hl]
      have hl1 : (16384 : Int) < (r.length : Int) := by omega
      have HP := Lib.hid (show noteE ss x q r ≠ 0 by rw [e1]; decide)
      rw [e1]
      clear ha e1 hl
      go_enter Tryd.func11, Tryd.ntmps11
      go_wp2_with (go_at_call 10; refine HA.out.mono ?_; rintro e w1 ⟨D1, rfl, -, b1⟩)
      go_ret
      exact ⟨rfl, clock, ss, H.out.below b1, .inl ⟨HP.out, rfl, rfl⟩, Frm.of_below b1⟩
    · have e1 : noteE ss x q r = 0 := by simp [noteE, ha, hl]
      have hl1 : ¬ (16384 : Int) < (r.length : Int) := by omega
      have HP := Lib.hid e1
      have HC := Lib.hid fun w1 (b1 : Below w.heap.size w w1) => cloneb_any _ r w1 (HR.out.below b1)
      rw [e1]
      clear ha e1 hl
      go_enter Tryd.func11, Tryd.ntmps11
      go_wp2_with (first
        | (go_at_call 10; refine HA.out.mono ?_; rintro e w1 ⟨D1, rfl, -, b1⟩)
        | (go_at_call 25; refine (HC.out _ b1).mono ?_; rintro e w2 ⟨D2, rfl, od, b2⟩; obtain ⟨B2, c2, hD2⟩ := od.one; subst hD2; (have b12 := below_then b1 b1.size b2))
        | (go_at_call 24; refine (put_any base p b clock ss x q 0 B2 c2 r w2 (H.out.below b12) (by have := b12.size; omega) (od.lower (by have := b1.size; omega)) wx hc0 hc1 hn).mono ?_; rintro e w3 ⟨rfl, tb, fr⟩))
      go_ret
      exact ⟨rfl, clock + 1, _, tb, .inr ⟨HP.out, rfl, _, _, rfl, fun k hk => Nat.le_trans b1.size (od.1.lt k hk).1⟩, (Frm.of_below b12).trans fr⟩
  · have e1 : noteE ss x q r = 1 := by simp [noteE, ha]
    have hne : (askK ss x q != 1) = true := by simp [ha]
    have HP := Lib.hid (show noteE ss x q r ≠ 0 by rw [e1]; decide)
    rw [e1]
    obtain ⟨k, hk⟩ : ∃ k, k = askK ss x q := ⟨_, rfl⟩
    rw [← hk] at HA hne
    clear ha e1 hk
    go_enter Tryd.func11, Tryd.ntmps11
    go_wp2_with (go_at_call 10; refine HA.out.mono ?_; rintro e w1 ⟨D1, rfl, -, b1⟩)
    go_ret
    exact ⟨rfl, clock, ss, H.out.below b1, .inl ⟨HP.out, rfl, rfl⟩, Frm.of_below b1⟩
end Go.Proofs.YtbdokphemdkhmaaDoor
