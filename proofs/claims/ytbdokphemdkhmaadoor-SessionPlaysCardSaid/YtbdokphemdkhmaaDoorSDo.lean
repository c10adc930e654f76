/- muntinlaw16.do: the contract. -/
import Derived.Test.YtbdokphemdkhmaaDoorSSmall
import Derived.Test.YtbdokphemdkhmaaDoorSAct
import Derived.Deep.QuietTactic
import Derived.BigQuiet
set_option linter.unusedVariables false
set_option linter.unusedSimpArgs false
namespace Go.Proofs.YtbdokphemdkhmaaDoor
open Go.RowKit

def doN (ss : List SV) (a : SV) : Int := if a.i = 0 then (if openE ss a.l = 0 then goneI ss else -1) else if a.i = 1 then askK ss a.l a.u else noteE ss a.l a.u a.r
def doB (ss : List SV) (a : SV) : List UInt8 := if a.i = 1 then askR ss a.l a.u else []
/-- what an act leaves -/
def DoP (w : World) (clock : Int) (ss : List SV) (a : SV) (clock' : Int) (ss' : List SV) : Prop :=
  (a.i = 0 ∧ ∃ gone, OpenP clock ss a.l gone clock' ss') ∨ (a.i = 1 ∧ clock' = clock ∧ ss' = ss) ∨ (a.i ≠ 0 ∧ a.i ≠ 1 ∧ NoteP w clock ss a.l a.u a.r clock' ss')
theorem OpenP.clock {clock : Int} {ss : List SV} {x gone clock' : Int} {ss' : List SV} (h : OpenP clock ss x gone clock' ss') : clock ≤ clock' ∧ clock' ≤ clock + 1 := by
  rcases h with ⟨_, _, rfl, _⟩ | ⟨_, _, rfl, _⟩ <;> omega
theorem NoteP.clock {w : World} {clock : Int} {ss : List SV} {x q : Int} {r : List UInt8} {clock' : Int} {ss' : List SV} (h : NoteP w clock ss x q r clock' ss') : clock ≤ clock' ∧ clock' ≤ clock + 1 := by
  rcases h with ⟨_, rfl, _⟩ | ⟨_, rfl, _⟩ <;> omega
theorem DoP.clock {w : World} {clock : Int} {ss : List SV} {a : SV} {clock' : Int} {ss' : List SV} (h : DoP w clock ss a clock' ss') : clock ≤ clock' ∧ clock' ≤ clock + 1 := by
  rcases h with ⟨_, _, h⟩ | ⟨_, rfl, _⟩ | ⟨_, _, h⟩
  · exact h.clock
  · omega
  · exact h.clock
theorem Inv.act {w : World} {clock : Int} {ss : List SV} {a : SV} {clock' : Int} {ss' : List SV} (h : Inv clock ss) (hp : DoP w clock ss a clock' ss') (w1 : (Lit.int .i64 a.l).wf = true) (w2 : (Lit.int .i64 a.u).wf = true) : Inv clock' ss' := by
  rcases hp with ⟨_, _, hp⟩ | ⟨_, rfl, rfl⟩ | ⟨_, _, hp⟩
  · exact h.open_ hp w1
  · exact h
  · exact h.note hp w1 w2
theorem openE_one {ss : List SV} {x : Int} (h : ¬ openE ss x = 0) : openE ss x = 1 := by
  unfold openE at h ⊢
  split
  · rfl
  · rename_i h2; rw [if_neg h2] at h; exact absurd rfl h

set_option maxRecDepth 100000 in
set_option maxHeartbeats 4000000 in
theorem do_any (base p b : Nat) (clock : Int) (ss : List SV) (a : SV) (w : World) (t : TB w base p b clock ss) (inv : Inv clock ss) (hb : base ≤ w.heap.size) (hE : ErrT w) (hE0 : 0 < base) (hr : RD w a.D a.r) (w1 : (Lit.int .i64 a.l).wf = true) (hc1 : clock ≤ 4611686018427400000) :
    Calls Tryd.prog 13 #[.pointer (some ⟨p, 0, none⟩), .agg #[.int .i64 a.i, .int .i64 a.l, .int .i64 a.u, .slice a.A a.r.length a.c]] w fun e w' => ∃ clock' ss', e = .returned (.tuple #[.int .i64 (doN ss a), .string (str (doB ss a))]) ∧ TB w' base p b clock' ss' ∧ DoP w clock ss a clock' ss' ∧ Frm (fun k => k = p ∨ k = b) w w' := by
  obtain ⟨d, id, q, B, cb, r⟩ := a
  simp only [SV.D] at *
  have bA := below_alloc w (.cells #[.int .i64 d, .int .i64 id, .int .i64 q, .slice B r.length cb] 30)
  have T := Lib.hid (t.below bA)
  have HRD := Lib.hid (hr.below bA)
  have HE := Lib.hid (hE.below bA)
  have HF := Lib.hid (Frm.of_below (S := fun k => k = p ∨ k = b) bA)
  have hbase := Lib.hid (show base ≤ (w.alloc (.cells #[.int .i64 d, .int .i64 id, .int .i64 q, .slice B r.length cb] 30)).heap.size by simp; omega)
  have IV := Lib.hid inv
  have HZ := Lib.hid t
  have hErr : ∀ (w1 w2 : World), TB w1 base p b clock ss → ErrT w1 → Frm (fun k => k = p ∨ k = b) w1 w2 → ErrT w2 := fun w1 w2 t1 e1 f => by
    have hlt := World.block_lt_of_cell? _ _ e1
    refine (World.cell?_of_block (w := w1) (f.block 0 hlt ?_)).trans e1
    have := t1.1
    have := t1.2.1
    rintro (e | e) <;> omega
  have HErr := Lib.hid hErr
  clear t hr hE inv bA hErr
  by_cases hd0 : d = 0
  · subst hd0
    have HOP := Lib.hid (open_any base p b clock ss id _ T.out hbase.out w1 IV.out.c0 hc1 (by have := IV.out.len; omega) (fun s hs => (IV.out.each s hs).2.1))
    by_cases he : openE ss id = 0
    · have e1 : doN ss ⟨0, id, q, B, cb, r⟩ = goneI ss := by simp [doN, he]
      have e2 : doB ss ⟨0, id, q, B, cb, r⟩ = [] := by simp [doB]
      rw [e1, e2]
      rw [he] at HOP
      have HEE := Lib.hid he
      clear he e1 e2
      go_enter Tryd.func13, Tryd.ntmps13
      go_wp2_with fail
      refine HOP.out.mono ?_
      rintro e w3 ⟨gone, clock', ss', rfl, t3, p3, f3⟩
      rw [errV_zero]
      go_wp2_with fail
      go_ret2
      have hg : gone = goneI ss := by
        rcases p3 with ⟨h, _⟩ | ⟨_, h, _⟩
        · exact absurd HEE.out h
        · exact h
      refine ⟨clock', ss', by rw [hg]; rfl, t3, .inl ⟨rfl, gone, p3⟩, HF.out.trans f3⟩
    · have h1 := openE_one he
      have e1 : doN ss ⟨0, id, q, B, cb, r⟩ = -1 := by simp [doN, he]
      have e2 : doB ss ⟨0, id, q, B, cb, r⟩ = [] := by simp [doB]
      rw [e1, e2]
      rw [h1, errV_pos 1 (by decide)] at HOP
      clear he e1 e2 h1
      go_enter Tryd.func13, Tryd.ntmps13
      go_wp2_with fail
      refine HOP.out.mono ?_
      rintro e w3 ⟨gone, clock', ss', rfl, t3, p3, f3⟩
      have e3 := HErr.out _ _ T.out HE.out f3
      have HC := Lib.hid (show Calls Tryd.prog 17 #[.iface 48 (.int .i64 (1 : Nat))] w3 fun e w' => e = .returned (.int .i64 1) ∧ Below w3.heap.size w3 w' from code_any 1 w3 e3)
      clear e3
      go_wp2_with fail
      refine HC.out.mono ?_
      rintro e w4 ⟨rfl, b4⟩
      go_wp2_with fail
      go_ret2
      exact ⟨clock', ss', rfl, t3.below b4, .inl ⟨rfl, gone, p3⟩, (HF.out.trans f3).trans (Frm.of_below b4)⟩
  · by_cases hd1 : d = 1
    · subst hd1
      have e1 : doN ss ⟨1, id, q, B, cb, r⟩ = askK ss id q := by simp [doN]
      have e2 : doB ss ⟨1, id, q, B, cb, r⟩ = askR ss id q := by simp [doB]
      rw [e1, e2]
      have HAS := Lib.hid (ask_any base p b clock ss id q _ T.out w1)
      generalize askK ss id q = kk at HAS ⊢
      generalize askR ss id q = rr at HAS ⊢
      clear e1 e2 hd0
      go_enter Tryd.func13, Tryd.ntmps13
      go_wp2_with fail
      refine HAS.out.mono ?_
      rintro e w3 ⟨D, rfl, od, b3⟩
      obtain ⟨DB, dc, hD⟩ := od.one
      subst hD
      have hk : ∀ m, (convert 28 9 (.slice DB rr.length dc)).run Tryd.prog (w3.drewN m) = .ok (.string (str rr)) (w3.drewN m) := fun m => run_str (w3.drewN m) DB rr dc ((RB.own od.1).drewN m) 9 Tryd.underlying9
      have T3 := Lib.hid (T.out.below b3)
      have F3 := Lib.hid (HF.out.trans (Frm.of_below b3))
      clear od b3
      go_wp2_with fail
      go_quiet (fail)
      go_wp2_with fail
      go_ret2
      exact ⟨clock, ss, rfl, T3.out, .inr (.inl ⟨rfl, rfl, rfl⟩), F3.out.drewN _⟩
    · have hd0b : (d == 0) = false := by simpa using hd0
      have hd1b : (d == 1) = false := by simpa using hd1
      have e1 : doN ss ⟨d, id, q, B, cb, r⟩ = noteE ss id q r := by simp [doN, hd0, hd1]
      have e2 : doB ss ⟨d, id, q, B, cb, r⟩ = [] := by simp [doB, hd1]
      rw [e1, e2]
      have HNT := Lib.hid (note_any base p b clock ss id q _ r _ T.out hbase.out HRD.out w1 IV.out.c0 hc1 (by have := IV.out.len; omega))
      obtain ⟨k, hk⟩ : ∃ k, k = noteE ss id q r := ⟨_, rfl⟩
      rw [← hk] at HNT ⊢
      have D0 := Lib.hid hd0
      have D1 := Lib.hid hd1
      clear e1 e2 hk hd0 hd1
      go_enter Tryd.func13, Tryd.ntmps13
      go_wp2_with fail
      refine HNT.out.mono ?_
      rintro e w3 ⟨rfl, clock', ss', t3, p3, f3⟩
      have e3 := HErr.out _ _ T.out HE.out f3
      have HC := Lib.hid (code_any k w3 e3)
      clear e3
      go_wp2_with fail
      refine HC.out.mono ?_
      rintro e w4 ⟨rfl, b4⟩
      go_wp2_with fail
      go_ret2
      refine ⟨clock', ss', rfl, t3.below b4, .inr (.inr ⟨D0.out, D1.out, ?_⟩), (HF.out.trans f3).trans (Frm.of_below b4)⟩
      rcases p3 with h | ⟨h1, h2, A, c, h3, h4⟩
      · exact .inl h
      · exact .inr ⟨h1, h2, A, c, h3, fun x hx => by have := h4 x hx; simp at this; omega⟩
end Go.Proofs.YtbdokphemdkhmaaDoor
