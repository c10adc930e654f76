/- trail's reading methods: end, Term, Last, Base, Newer: the contracts. -/
import Derived.Test.YtkjpfjgaabbggaaDoorTCopied
import Derived.Deep.QuietTactic
import Derived.BigQuiet
import Derived.Outline
import Derived.IntWalk
set_option linter.unusedVariables false
set_option linter.unusedSimpArgs false
namespace Go.Proofs.YtkjpfjgaabbggaaDoor
open Go.RowKit

/-- a trail's block reads so -/
def TR (w : World) (p : Nat) (i t : Int) (v : Value) : Prop := w.cell? ⟨p, 0, none⟩ = some (.int .i64 i) ∧ w.cell? ⟨p, 1, none⟩ = some (.int .i64 t) ∧ w.cell? ⟨p, 2, none⟩ = some v

theorem RD.drewN {w : World} {D : Value} {d : List UInt8} (h : RD w D d) {m : Nat} : RD (w.drewN m) D d := by
  obtain ⟨B, c, h1, h2, r⟩ := h
  exact ⟨B, c, h1, h2.drewN m, r⟩
theorem RE.drewN {w : World} {A : Option Addr} {es : List Ent} {Ds : List Value} (h : RE w A es Ds) {m : Nat} : RE (w.drewN m) A es Ds :=
  ⟨h.1, fun j u hj => h.2.1 j u hj, fun i h1 h2 => (h.2.2 i h1 h2).drewN⟩
theorem TR.drewN {w : World} {p : Nat} {i t : Int} {v : Value} (h : TR w p i t v) {m : Nat} : TR (w.drewN m) p i t v := h

set_option maxRecDepth 100000 in
set_option maxHeartbeats 1000000 in
theorem end_any (p : Nat) (i t : Int) (L : Option Addr) (n c : Nat) (w : World) (h : TR w p i t (.slice L n c)) (h0 : 0 ≤ i) (h1 : i ≤ 10000000000000) (h2 : n ≤ 10000000000000) :
    Calls Tryd.prog 33 #[.pointer (some ⟨p, 0, none⟩)] w fun e w' => e = .returned (.int .i64 (i + n)) ∧ ∃ m, w' = w.drewN m := by
  have c0 : ∀ m, (w.drewN m).cell? ⟨p, 0, none⟩ = some (.int .i64 i) := fun m => h.1
  have c2 : ∀ m, (w.drewN m).cell? ⟨p, 2, none⟩ = some (.slice L n c) := fun m => h.2.2
  clear h
  go_enter Tryd.func33, Tryd.ntmps33
  go_wp2_with fail
  go_quiet (fail)
  go_wp2_with fail
  go_ret
  exact ⟨rfl, _, rfl⟩

theorem termT_at (i t : Int) (es : List Ent) (j : Nat) (h : j < es.length) : termT i t es (i + 1 + j) = es[j].t ∧ inT i es (i + 1 + j) = true := by
  have hi : inT i es (i + 1 + j) = true := decide_eq_true (by omega)
  refine ⟨?_, hi⟩
  unfold termT
  rw [if_pos hi, show (i + 1 + (j : Int) - i).toNat = j + 1 by omega]
  simp [termN, h]
theorem termT_base (i t : Int) (es : List Ent) : termT i t es i = t ∧ inT i es i = true := by
  have hi : inT i es i = true := decide_eq_true (by omega)
  refine ⟨?_, hi⟩
  unfold termT
  rw [if_pos hi, show (i - i).toNat = 0 by omega]
  rfl
theorem termT_out (i t : Int) (es : List Ent) (x : Int) (h : x < i ∨ i + es.length < x) : termT i t es x = 0 ∧ inT i es x = false := by
  have hi : inT i es x = false := decide_eq_false (by omega)
  refine ⟨?_, hi⟩
  unfold termT
  rw [if_neg (by rw [hi]; decide)]

set_option maxRecDepth 100000 in
set_option maxHeartbeats 1000000 in
theorem term_any (p : Nat) (i t : Int) (L : Option Addr) (c : Nat) (es : List Ent) (Ds : List Value) (x : Int) (w : World) (h : TR w p i t (.slice L es.length c)) (hre : RE w L es Ds) (h0 : 0 ≤ i) (h1 : i ≤ 10000000000000) (h2 : es.length ≤ 10000000000000) :
    Calls Tryd.prog 16 #[.pointer (some ⟨p, 0, none⟩), .int .i64 x] w fun e w' => e = .returned (.tuple #[.int .i64 (termT i t es x), .bool (inT i es x)]) ∧ ∃ m, w' = w.drewN m := by
  have HE := Lib.hid (end_any p i t L es.length c)
  have c0 : ∀ m, (w.drewN m).cell? ⟨p, 0, none⟩ = some (.int .i64 i) := fun m => h.1
  have c1 : ∀ m, (w.drewN m).cell? ⟨p, 1, none⟩ = some (.int .i64 t) := fun m => h.2.1
  have c2 : ∀ m, (w.drewN m).cell? ⟨p, 2, none⟩ = some (.slice L es.length c) := fun m => h.2.2
  have c0' := h.1
  have HH := Lib.hid h
  by_cases hx1 : x < i
  · obtain ⟨e1, e2⟩ := termT_out i t es x (.inl hx1)
    rw [e1, e2]
    clear e1 e2 h
    go_enter Tryd.func16, Tryd.ntmps16
    go_wp2_with fail
    go_ret2
    exact ⟨rfl, 0, rfl⟩
  · by_cases hx2 : i + es.length < x
    · obtain ⟨e1, e2⟩ := termT_out i t es x (.inr hx2)
      rw [e1, e2]
      clear e1 e2 h
      go_enter Tryd.func16, Tryd.ntmps16
      go_wp2_with fail
      refine (HE.out _ HH.out h0 h1 h2).mono ?_
      rintro e w1 ⟨rfl, m, rfl⟩
      go_wp2_with fail
      go_ret2
      exact ⟨rfl, m, rfl⟩
    · by_cases hx3 : x = i
      · subst hx3
        obtain ⟨e1, e2⟩ := termT_base x t es
        rw [e1, e2]
        clear e1 e2 h
        go_enter Tryd.func16, Tryd.ntmps16
        go_wp2_with fail
        refine (HE.out _ HH.out h0 h1 h2).mono ?_
        rintro e w1 ⟨rfl, m, rfl⟩
        go_wp2_with fail
        go_ret2
        exact ⟨rfl, m, rfl⟩
      · obtain ⟨j, hj⟩ : ∃ j : Nat, x = i + 1 + j := ⟨(x - i - 1).toNat, by omega⟩
        have hjl : j < es.length := by omega
        obtain ⟨e1, e2⟩ := termT_at i t es j hjl
        rw [← hj] at e1 e2
        rw [e1, e2]
        obtain ⟨b, o, rfl, hb, -⟩ := hre.addr (by omega)
        obtain ⟨-, g1, -⟩ := hre.at j hjl
        have cc : ∀ m, (w.drewN m).cell? ⟨b, o + j * 4 + 1, none⟩ = some (.int .i64 es[j].t) := fun m => g1
        have s1 : IntKind.i64.wrap (x - i) = ((j + 1 : Nat) : Int) := (IntWalk.i64_in (x - i) (by omega)).trans (by omega)
        have s2 : IntKind.i64.wrap (((j + 1 : Nat) : Int) - 1) = (j : Int) := (IntWalk.i64_in (((j + 1 : Nat) : Int) - 1) (by omega)).trans (by omega)
        have hjl1 : (j : Int) < (es.length : Int) := by omega
        have hne : (x == i) = false := beq_eq_false_iff_ne.2 hx3
        clear e1 e2 h hre g1 hj hx3
        go_enter Tryd.func16, Tryd.ntmps16
        go_wp2_with fail
        refine (HE.out _ HH.out h0 h1 h2).mono ?_
        rintro e w1 ⟨rfl, m, rfl⟩
        go_wp2_with fail
        go_quiet (fail)
        go_wp2_with fail
        go_ret2
        exact ⟨rfl, _, World.drewN_drewN _ _ _⟩

set_option maxRecDepth 100000 in
set_option maxHeartbeats 1000000 in
theorem last_any (p : Nat) (i t : Int) (L : Option Addr) (c : Nat) (es : List Ent) (Ds : List Value) (w : World) (h : TR w p i t (.slice L es.length c)) (hre : RE w L es Ds) (h0 : 0 ≤ i) (h1 : i ≤ 10000000000000) (h2 : es.length ≤ 10000000000000) :
    Calls Tryd.prog 10 #[.pointer (some ⟨p, 0, none⟩)] w fun e w' => e = .returned (.tuple #[.int .i64 (i + es.length), .int .i64 (endT t es)]) ∧ ∃ m, w' = w.drewN m := by
  have HE := Lib.hid (end_any p i t L es.length c)
  have HT := Lib.hid (term_any p i t L c es Ds (i + es.length))
  have HH := Lib.hid h
  have HR := Lib.hid hre
  have he := termT_end i t es
  rw [he] at HT
  clear he h hre
  go_enter Tryd.func10, Tryd.ntmps10
  go_wp2_with fail
  refine (HE.out _ HH.out h0 h1 h2).mono ?_
  rintro e w1 ⟨rfl, m, rfl⟩
  go_wp2_with fail
  refine (HT.out (w.drewN m) HH.out HR.out.drewN h0 h1 h2).mono ?_
  rintro e w1 ⟨rfl, m2, rfl⟩
  go_wp2_with fail
  refine (HE.out _ HH.out.drewN h0 h1 h2).mono ?_
  rintro e w1 ⟨rfl, m3, rfl⟩
  go_wp2_with fail
  go_ret2
  exact ⟨rfl, _, rfl⟩

theorem base_any (p : Nat) (i t : Int) (v : Value) (w : World) (h : TR w p i t v) :
    Calls Tryd.prog 19 #[.pointer (some ⟨p, 0, none⟩)] w fun e w' => e = .returned (.tuple #[.int .i64 i, .int .i64 t]) ∧ ∃ m, w' = w.drewN m := by
  have c0 : ∀ m, (w.drewN m).cell? ⟨p, 0, none⟩ = some (.int .i64 i) := fun m => h.1
  have c1 : ∀ m, (w.drewN m).cell? ⟨p, 1, none⟩ = some (.int .i64 t) := fun m => h.2.1
  clear h
  go_enter Tryd.func19, Tryd.ntmps19
  go_wp2_with fail
  go_quiet (fail)
  go_wp2_with fail
  go_ret2
  exact ⟨rfl, _, rfl⟩

/-- is another log as new? -/
def newerT (i t : Int) (es : List Ent) (x y : Int) : Bool := decide (endT t es < y ∨ y = endT t es ∧ i + es.length ≤ x)
set_option maxRecDepth 100000 in
set_option maxHeartbeats 1000000 in
theorem newer_any (p : Nat) (i t : Int) (L : Option Addr) (c : Nat) (es : List Ent) (Ds : List Value) (x y : Int) (w : World) (h : TR w p i t (.slice L es.length c)) (hre : RE w L es Ds) (h0 : 0 ≤ i) (h1 : i ≤ 10000000000000) (h2 : es.length ≤ 10000000000000) :
    Calls Tryd.prog 23 #[.pointer (some ⟨p, 0, none⟩), .int .i64 x, .int .i64 y] w fun e w' => e = .returned (.bool (newerT i t es x y)) ∧ ∃ m, w' = w.drewN m := by
  have HL := Lib.hid (last_any p i t L c es Ds w h hre h0 h1 h2)
  clear h hre
  by_cases a1 : endT t es < y
  · have e1 : newerT i t es x y = true := decide_eq_true (.inl a1)
    rw [e1]
    clear e1
    go_enter Tryd.func23, Tryd.ntmps23
    go_wp2_with fail
    refine HL.out.mono ?_
    rintro e w1 ⟨rfl, m, rfl⟩
    go_wp2_with fail
    go_ret
    exact ⟨rfl, m, rfl⟩
  · by_cases a2 : y = endT t es
    · have e0 : newerT i t es x y = decide (i + es.length ≤ x) := by unfold newerT; congr 1; apply propext; omega
      by_cases a3 : i + es.length ≤ x
      all_goals
        first | (have e1 := e0.trans (decide_eq_true a3); rw [e1]; clear e1; have d3 := decide_eq_true a3) | (have e1 := e0.trans (decide_eq_false a3); rw [e1]; clear e1; have d3 := decide_eq_false a3)
        have d1 := decide_eq_false a1
        have hb : (y == endT t es) = true := beq_iff_eq.2 a2
        have H2 := Lib.hid a2
        clear e0 a2
        go_enter Tryd.func23, Tryd.ntmps23
        go_wp2_with fail
        refine HL.out.mono ?_
        rintro e w1 ⟨rfl, m, rfl⟩
        go_wp2_with fail
        go_ret
        exact ⟨rfl, m, rfl⟩
    · have e1 : newerT i t es x y = false := decide_eq_false (by rintro (h | h); exact a1 h; exact a2 h.1)
      rw [e1]
      have hb : (y == endT t es) = false := beq_eq_false_iff_ne.2 a2
      have d1 := decide_eq_false a1
      clear e1
      go_enter Tryd.func23, Tryd.ntmps23
      go_wp2_with fail
      refine HL.out.mono ?_
      rintro e w1 ⟨rfl, m, rfl⟩
      go_wp2_with fail
      go_ret
      exact ⟨rfl, m, rfl⟩
end Go.Proofs.YtkjpfjgaabbggaaDoor
