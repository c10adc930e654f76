/- Tables of the same content answer alike. Plain. -/
import Derived.Test.YtbdokphemdkhmaaDoorSRestore
set_option linter.unusedVariables false
set_option linter.unusedSimpArgs false
namespace Go.Proofs.YtbdokphemdkhmaaDoor
open Go.RowKit

theorem findS_core (x : Int) : ∀ {a b : List SV}, a.map core = b.map core → (findS x a).map core = (findS x b).map core
  | [], [], _ => rfl
  | y :: a, z :: b, h => by
    simp only [List.map_cons, List.cons.injEq] at h
    have ih := findS_core x h.2
    have e : y.i = z.i := congrArg (fun t => t.1) h.1
    unfold findS at ih ⊢
    rw [List.find?_cons, List.find?_cons, e]
    cases z.i == x
    · exact ih
    · simp [h.1]
theorem find_pair {x : Int} {a b : List SV} (h : a.map core = b.map core) : (findS x a = none ∧ findS x b = none) ∨ ∃ s t, findS x a = some s ∧ findS x b = some t ∧ core s = core t := by
  have := findS_core x h
  cases ha : findS x a with
  | none => rw [ha] at this; cases hb : findS x b with
    | none => exact .inl ⟨rfl, rfl⟩
    | some t => rw [hb] at this; simp at this
  | some s => rw [ha] at this; cases hb : findS x b with
    | none => rw [hb] at this; simp at this
    | some t => rw [hb] at this; exact .inr ⟨s, t, rfl, rfl, by simpa using this⟩
theorem core_len {a b : List SV} (h : a.map core = b.map core) : a.length = b.length := by simpa using congrArg List.length h
theorem ask_core {a b : List SV} (h : a.map core = b.map core) (x q : Int) : askK a x q = askK b x q ∧ askR a x q = askR b x q := by
  unfold askK askR
  rcases find_pair (x := x) h with ⟨h1, h2⟩ | ⟨s, t, h1, h2, hc⟩
  · rw [h1, h2]; exact ⟨rfl, rfl⟩
  · rw [h1, h2]
    simp only [core, Prod.mk.injEq] at hc
    obtain ⟨_, e1, _, e2⟩ := hc
    simp only [e1, e2, and_self]
theorem open_core {a b : List SV} (h : a.map core = b.map core) (x : Int) : openE a x = openE b x := by
  unfold openE
  rcases find_pair (x := x) h with ⟨h1, h2⟩ | ⟨s, t, h1, h2, hc⟩
  · rw [h1, h2]
  · rw [h1, h2]; rfl
theorem note_core {a b : List SV} (h : a.map core = b.map core) (x q : Int) (r : List UInt8) : noteE a x q r = noteE b x q r := by unfold noteE; rw [(ask_core h x q).1]
theorem gone_core {a b : List SV} (h : a.map core = b.map core) : goneI a = goneI b := by
  unfold goneI
  have e : (minS a).i = (minS b).i := congrArg (fun t => t.1) (minS_core h)
  rw [core_len h, e]
theorem del_core (x : Int) : ∀ {a b : List SV}, a.map core = b.map core → (delS x a).map core = (delS x b).map core
  | [], [], _ => rfl
  | y :: a, z :: b, h => by
    simp only [List.map_cons, List.cons.injEq] at h
    have ih := del_core x h.2
    have e : y.i = z.i := congrArg (fun t => t.1) h.1
    unfold delS at ih ⊢
    rw [List.filter_cons, List.filter_cons, e]
    cases z.i == x
    · simpa [h.1] using ih
    · exact ih
theorem drop_core {a b : List SV} (h : a.map core = b.map core) : (dropS a).map core = (dropS b).map core := by
  unfold dropS
  have e : (minS a).i = (minS b).i := congrArg (fun t => t.1) (minS_core h)
  rw [core_len h, e]
  split
  · exact del_core _ h
  · exact h
theorem ins_core {x y : SV} (hx : core x = core y) : ∀ {a b : List SV}, a.map core = b.map core → (insS x a).map core = (insS y b).map core
  | [], [], _ => by simp [insS, hx]
  | u :: a, v :: b, h => by
    simp only [List.map_cons, List.cons.injEq] at h
    have ih := ins_core hx h.2
    have e : u.i = v.i := congrArg (fun t => t.1) h.1
    have e2 : x.i = y.i := congrArg (fun t => t.1) hx
    simp only [insS, e, e2]
    split
    · simp [hx, h.1, h.2]
    · simp [h.1, ih]
theorem put_core {x y : SV} (hx : core x = core y) {a b : List SV} (h : a.map core = b.map core) : (putS x a).map core = (putS y b).map core := by
  have e2 : x.i = y.i := congrArg (fun t => t.1) hx
  unfold putS
  rw [e2]
  exact ins_core hx (del_core _ h)
theorem do_core {a b : List SV} (h : a.map core = b.map core) (x : SV) : doN a x = doN b x ∧ doB a x = doB b x := by
  unfold doN doB
  rw [open_core h, gone_core h, (ask_core h x.l x.u).1, (ask_core h x.l x.u).2, note_core h]
  exact ⟨rfl, rfl⟩
theorem doP_core {w w' : World} {clock : Int} {a b : List SV} {x : SV} {c1 c2 : Int} {a' b' : List SV} (h : a.map core = b.map core) (h1 : DoP w clock a x c1 a') (h2 : DoP w' clock b x c2 b') : c1 = c2 ∧ a'.map core = b'.map core := by
  rcases h1 with ⟨d1, g1, p1⟩ | ⟨d1, rfl, rfl⟩ | ⟨d1, d1', p1⟩ <;> rcases h2 with ⟨d2, g2, p2⟩ | ⟨d2, rfl, rfl⟩ | ⟨d2, d2', p2⟩
  · rcases p1 with ⟨e1, _, rfl, rfl⟩ | ⟨e1, _, rfl, rfl⟩ <;> rcases p2 with ⟨e2, _, rfl, rfl⟩ | ⟨e2, _, rfl, rfl⟩
    · exact ⟨rfl, h⟩
    · rw [← open_core h] at e2; exact absurd e2 e1
    · rw [← open_core h] at e2; exact absurd e1 e2
    · exact ⟨rfl, put_core rfl (drop_core h)⟩
  · omega
  · exact absurd d1 d2
  · omega
  · exact ⟨rfl, h⟩
  · exact absurd d1 d2'
  · exact absurd d2 d1
  · exact absurd d2 d1'
  · rcases p1 with ⟨e1, rfl, rfl⟩ | ⟨e1, rfl, A1, k1, rfl, _⟩ <;> rcases p2 with ⟨e2, rfl, rfl⟩ | ⟨e2, rfl, A2, k2, rfl, _⟩
    · exact ⟨rfl, h⟩
    · rw [← note_core h] at e2; exact absurd e2 e1
    · rw [← note_core h] at e2; exact absurd e1 e2
    · exact ⟨rfl, put_core (by simp [core]) h⟩
/-- another table is kept -/
theorem TB.framed {w w' : World} {base p b base2 p2 b2 : Nat} {clock clock2 : Int} {ss ss2 : List SV} (h : TB w base p b clock ss) (t : TB w base2 p2 b2 clock2 ss2) (hp : p2 ≠ p) (hb : b2 ≠ b) (f : Frm (fun k => k = p ∨ k = b) w w') : TB w' base2 p2 b2 clock2 ss2 := by
  refine t.step ?_
  rintro k (rfl | rfl | ⟨s, hs, hk⟩)
  · refine f.block _ t.plt ?_
    rintro (e | e)
    · exact hp e
    · obtain ⟨_, _, _, ⟨_, _, _, h2, _⟩, _⟩ := h
      rw [← e, t.2.2.1] at h2
      cases h2
  · refine f.block _ t.2.2.2.1.lt ?_
    rintro (e | e)
    · obtain ⟨_, _, _, ⟨_, _, _, h2, _⟩, _⟩ := t
      rw [e, h.2.2.1] at h2
      cases h2
    · exact hb e
  · have o := t.2.2.2.2 s hs
    refine f.block k (o.1.lt k hk).2 ?_
    rintro (e | e)
    · exact h.nep o (by rw [hk, e])
    · exact h.neb o (by rw [hk, e])
end Go.Proofs.YtbdokphemdkhmaaDoor
