/- A session table in memory: what it is, what keeps it; slices.Clone of bytes; New, Clock, Ask. -/
import Derived.Test.YtbdokphemdkhmaaDoorIMap
import Derived.Test.YtbdokphemdkhmaaDoorLent
import Derived.WalkSpells
import Derived.ArgAppend
import Derived.Outline
import Derived.IntWalk
set_option linter.unusedVariables false
set_option linter.unusedSimpArgs false
namespace Go.Proofs.YtbdokphemdkhmaaDoor
open Go.RowKit

/-- A slice value reads as bytes. -/
def RD (w : World) (D : Value) (d : List UInt8) : Prop := ∃ B c, D = .slice B d.length c ∧ RB w B d ∧ d.length ≤ c ∧ d.length ≤ 140737488351232 ∧ (B = none → c = 0)
theorem RD.below {w w' : World} {D : Value} {d : List UInt8} (h : RD w D d) (b : Below w.heap.size w w') : RD w' D d := by
  obtain ⟨B, c, h1, h2, r⟩ := h
  exact ⟨B, c, h1, h2.below b, r⟩
/-- bytes that are owned -/
def OD (w : World) (base : Nat) (D : Value) (d : List UInt8) : Prop := w.ownsRow base 5 1 D d.length (bv d) ∧ d.length ≤ 140737488351232
theorem OD.rd {w : World} {base : Nat} {D : Value} {d : List UInt8} (h : OD w base D d) : RD w D d := by
  obtain ⟨A, c, rfl, hc, hA⟩ := own_shape h.1
  exact ⟨A, c, rfl, RB.own h.1, hc, h.2, hA⟩
theorem own_step {w w' : World} {base : Nat} {e : TypeId} {size n : Nat} {v : Value} {xs : List Value} (h : w.ownsRow base e size v n xs) (hb : ∀ k, v.ownBlock = some k → w'.heap[k]? = w.heap[k]?) : w'.ownsRow base e size v n xs := by
  refine ⟨h.1, ?_⟩
  rcases h.2 with h1 | ⟨g, cap, cur, rfl, hg, hh, r⟩
  · exact .inl h1
  · exact .inr ⟨g, cap, cur, rfl, hg, by rw [hb g rfl]; exact hh, r⟩
theorem own_lower {w : World} {base b' : Nat} {e : TypeId} {size n : Nat} {v : Value} {xs : List Value} (h : w.ownsRow base e size v n xs) (hb : b' ≤ base) : w.ownsRow b' e size v n xs := by
  refine ⟨h.1, ?_⟩
  rcases h.2 with h1 | ⟨g, cap, cur, hv, hg, r⟩
  · exact .inl h1
  · exact .inr ⟨g, cap, cur, hv, Nat.le_trans hb hg, r⟩
theorem OD.step {w w' : World} {base : Nat} {D : Value} {d : List UInt8} (h : OD w base D d) (hb : ∀ k, D.ownBlock = some k → w'.heap[k]? = w.heap[k]?) : OD w' base D d := ⟨own_step h.1 hb, h.2⟩
theorem OD.below {w w' : World} {base : Nat} {D : Value} {d : List UInt8} (h : OD w base D d) (b : Below w.heap.size w w') : OD w' base D d := h.step fun k hk => b.block k (h.1.lt k hk).2
theorem OD.lower {w : World} {base b' : Nat} {D : Value} {d : List UInt8} (h : OD w base D d) (hb : b' ≤ base) : OD w b' D d := ⟨own_lower h.1 hb, h.2⟩
theorem OD.nil (w : World) (base : Nat) : OD w base (.slice none 0 0) [] := ⟨World.ownsRow_nil _ _ _ _, by simp⟩
theorem OD.one {w : World} {base : Nat} {D : Value} {d : List UInt8} (h : OD w base D d) : ∃ B c, D = .slice B d.length c := by
  obtain ⟨B, c, e, _⟩ := h.rd
  exact ⟨B, c, e⟩
/-- what two worlds share outside some blocks, but for new ones -/
structure Frm (S : Nat → Prop) (w w' : World) : Prop where
  os : w'.os = w.os
  tape : w'.tape = w.tape
  output : w'.output = w.output
  size : w.heap.size ≤ w'.heap.size
  block : ∀ k, k < w.heap.size → ¬ S k → w'.heap[k]? = w.heap[k]?
theorem Frm.refl (S : Nat → Prop) (w : World) : Frm S w w := ⟨rfl, rfl, rfl, Nat.le_refl _, fun _ _ _ => rfl⟩
theorem Frm.trans {S : Nat → Prop} {a b c : World} (h : Frm S a b) (k : Frm S b c) : Frm S a c :=
  ⟨k.os.trans h.os, k.tape.trans h.tape, k.output.trans h.output, Nat.le_trans h.size k.size, fun i hi hs => (k.block i (Nat.lt_of_lt_of_le hi h.size) hs).trans (h.block i hi hs)⟩
theorem Frm.of_below {S : Nat → Prop} {w w' : World} (h : Below w.heap.size w w') : Frm S w w' := ⟨h.os, h.tape, h.output, h.size, fun k hk _ => h.block k hk⟩
theorem Frm.below {S : Nat → Prop} {B : Nat} {w w' : World} (h : Frm S w w') (hB : B ≤ w.heap.size) (hS : ∀ k, S k → B ≤ k) : Below B w w' :=
  ⟨h.os, h.tape, h.output, h.size, fun k hk => h.block k (by omega) fun s => by have := hS k s; omega⟩
theorem Frm.mono {S T : Nat → Prop} {w w' : World} (h : Frm S w w') (hs : ∀ k, S k → T k) : Frm T w w' := ⟨h.os, h.tape, h.output, h.size, fun k hk ht => h.block k hk fun s => ht (hs k s)⟩
theorem Frm.grown {S : Nat → Prop} {w w' : World} {r : Option Nat} (h : w.grownBy w' r) (hs : ∀ k, r = some k → S k) : Frm S w w' :=
  ⟨h.os, h.tape, h.output, h.size, fun k hk hn => h.block k hk fun e => hn (hs k e.symm)⟩
theorem Frm.setCell {S : Nat → Prop} {w w' : World} (h : Frm S w w') (a : Addr) (v : Value) (ha : S a.block ∨ w.heap.size ≤ a.block) : Frm S w (w'.setCell a v) :=
  ⟨h.os, h.tape, h.output, by rw [World.size_setCell]; exact h.size, fun k hk hn => by
    rw [heap_setCell_other _ _ _ _ (fun e => by rcases ha with s | s; exact hn (by rw [e]; exact s); omega)]; exact h.block k hk hn⟩
theorem Frm.drewN {S : Nat → Prop} {w w' : World} (h : Frm S w w') (m : Nat) : Frm S w (w'.drewN m) := ⟨h.os, h.tape, h.output, h.size, h.block⟩

/-- a session, its reply's slice and bytes -/
structure SV where
  i : Int
  l : Int
  u : Int
  A : Option Addr
  c : Nat
  r : List UInt8
instance : Inhabited SV := ⟨⟨0, 0, 0, none, 0, []⟩⟩
def SV.D (s : SV) : Value := .slice s.A s.r.length s.c
def sV (s : SV) : Value := .agg #[.int .i64 s.i, .int .i64 s.l, .int .i64 s.u, s.D]
def sE (s : SV) : Int × Value := (s.i, sV s)
def sI (ss : List SV) : IVs := ss.map sE
def findS (x : Int) (ss : List SV) : Option SV := ss.find? fun s => s.i == x
def insS (x : SV) : List SV → List SV
  | [] => [x]
  | y :: r => if x.i < y.i then x :: y :: r else y :: insS x r
def delS (x : Int) (ss : List SV) : List SV := ss.filter fun s => !(s.i == x)
def putS (x : SV) (ss : List SV) : List SV := insS x (delS x.i ss)
def zV : Value := .agg #[.int .i64 0, .int .i64 0, .int .i64 0, .slice none 0 0]
theorem sI_ins (x : SV) : ∀ ss, insI x.i (sV x) (sI ss) = sI (insS x ss)
  | [] => rfl
  | y :: r => by
    have ih := sI_ins x r
    simp only [sI, List.map_cons, insI, insS, sE] at ih ⊢
    by_cases h : x.i < y.i
    · simp [h, sE]
    · simp [h, sE]; exact ih
theorem sI_del (x : Int) (ss : List SV) : delI x (sI ss) = sI (delS x ss) := by
  unfold delI sI delS
  rw [List.filter_map]
  rfl
theorem sI_put (x : SV) (ss : List SV) : putI x.i (sV x) (sI ss) = sI (putS x ss) := by unfold putI putS; rw [sI_del, sI_ins]
theorem look_sI (x : Int) (ss : List SV) : look x (sI ss) = (findS x ss).map sV := by
  unfold look sI findS
  rw [List.find?_map]
  cases h : List.find? ((fun p => p.1 == x) ∘ sE) ss with
  | none =>
    have h' : List.find? (fun s => s.i == x) ss = none := h
    rw [h']; rfl
  | some s =>
    have h' : List.find? (fun s => s.i == x) ss = some s := h
    rw [h']; rfl
theorem findS_mem {x : Int} {ss : List SV} {s : SV} (h : findS x ss = some s) : s ∈ ss ∧ s.i = x := ⟨List.mem_of_find?_eq_some h, by have := List.find?_some h; simpa using this⟩
theorem mem_insS {x s : SV} : ∀ {ss : List SV}, s ∈ insS x ss ↔ s = x ∨ s ∈ ss
  | [] => by simp [insS]
  | y :: r => by
    simp only [insS]
    split
    · simp
    · simp only [List.mem_cons, mem_insS (ss := r)]
      constructor
      · rintro (h | h | h)
        · exact .inr (.inl h)
        · exact .inl h
        · exact .inr (.inr h)
      · rintro (h | h | h)
        · exact .inr (.inl h)
        · exact .inl h
        · exact .inr (.inr h)
theorem mem_delS {x : Int} {s : SV} {ss : List SV} : s ∈ delS x ss ↔ s ∈ ss ∧ s.i ≠ x := by simp [delS]
theorem mem_putS {x s : SV} {ss : List SV} : s ∈ putS x ss ↔ s = x ∨ (s ∈ ss ∧ s.i ≠ x.i) := by unfold putS; rw [mem_insS, mem_delS]

/-- a table: its block p, its map's block b -/
def TB (w : World) (base p b : Nat) (clock : Int) (ss : List SV) : Prop :=
  base ≤ p ∧ base ≤ b ∧ w.heap[p]? = some (.cells #[.map (some b), .int .i64 clock] 62 (0, 0)) ∧ IM w b (sI ss) ∧ ∀ s ∈ ss, OD w base s.D s.r
/-- the blocks of a table -/
def TBk (p b : Nat) (ss : List SV) (k : Nat) : Prop := k = p ∨ k = b ∨ ∃ s ∈ ss, s.D.ownBlock = some k
theorem TB.plt {w : World} {base p b : Nat} {clock : Int} {ss : List SV} (h : TB w base p b clock ss) : p < w.heap.size := (Array.getElem?_eq_some_iff.1 h.2.2.1).1
theorem TB.lt {w : World} {base p b : Nat} {clock : Int} {ss : List SV} (h : TB w base p b clock ss) : ∀ k, TBk p b ss k → base ≤ k ∧ k < w.heap.size := by
  rintro k (rfl | rfl | ⟨s, hs, hk⟩)
  · exact ⟨h.1, h.plt⟩
  · exact ⟨h.2.1, h.2.2.2.1.lt⟩
  · exact (h.2.2.2.2 s hs).1.lt k hk
theorem TB.step {w w' : World} {base p b : Nat} {clock : Int} {ss : List SV} (h : TB w base p b clock ss) (hb : ∀ k, TBk p b ss k → w'.heap[k]? = w.heap[k]?) : TB w' base p b clock ss :=
  ⟨h.1, h.2.1, (hb p (.inl rfl)).trans h.2.2.1, h.2.2.2.1.step (hb b (.inr (.inl rfl))), fun s hs => (h.2.2.2.2 s hs).step fun k hk => hb k (.inr (.inr ⟨s, hs, hk⟩))⟩
theorem TB.below {w w' : World} {base p b : Nat} {clock : Int} {ss : List SV} (h : TB w base p b clock ss) (hb : Below w.heap.size w w') : TB w' base p b clock ss :=
  h.step fun k hk => hb.block k (h.lt k hk).2
theorem cell_of {w : World} {g : Nat} {cur : Array Value} {t : TypeId} {fr : Nat × Nat} (h : w.heap[g]? = some (.cells cur t fr)) (k : Nat) : w.cell? ⟨g, k, none⟩ = cur[k]? := by
  simp [World.cell?, h]
theorem frozen_of {w : World} {g : Nat} {cur : Array Value} {t : TypeId} (h : w.heap[g]? = some (.cells cur t (0, 0))) (k : Nat) : w.frozen? ⟨g, k, none⟩ = false := by
  simp [World.frozen?, h]
theorem TB.cm {w : World} {base p b : Nat} {clock : Int} {ss : List SV} (h : TB w base p b clock ss) : w.cell? ⟨p, 0, none⟩ = some (.map (some b)) := by rw [cell_of h.2.2.1]; rfl
theorem TB.cc {w : World} {base p b : Nat} {clock : Int} {ss : List SV} (h : TB w base p b clock ss) : w.cell? ⟨p, 1, none⟩ = some (.int .i64 clock) := by rw [cell_of h.2.2.1]; rfl
/-- the table's block is another than its map's, and than a reply's -/
theorem TB.ne {w : World} {base p b : Nat} {clock : Int} {ss : List SV} (h : TB w base p b clock ss) : p ≠ b := by
  intro e
  subst e
  obtain ⟨_, _, h1, ⟨_, _, _, h2, _⟩, _⟩ := h
  rw [h1] at h2
  cases h2
theorem TB.nep {w : World} {base p b : Nat} {clock : Int} {ss : List SV} (h : TB w base p b clock ss) {base' : Nat} {D : Value} {r : List UInt8} (ho : OD w base' D r) : D.ownBlock ≠ some p := by
  intro e
  rcases ho.1.2 with ⟨rfl, _⟩ | ⟨g, cap, cur, rfl, _, hg, _⟩
  · simp [Value.ownBlock] at e
  · simp [Value.ownBlock] at e
    subst e
    rw [h.2.2.1] at hg
    injection hg with hg
    injection hg with _ ht
    exact absurd ht (by decide)
theorem TB.neb {w : World} {base p b : Nat} {clock : Int} {ss : List SV} (h : TB w base p b clock ss) {base' : Nat} {D : Value} {r : List UInt8} (ho : OD w base' D r) : D.ownBlock ≠ some b := by
  intro e
  obtain ⟨_, _, _, ⟨_, _, _, h2, _⟩, _⟩ := h
  rcases ho.1.2 with ⟨rfl, _⟩ | ⟨g, cap, cur, rfl, _, hg, _⟩
  · simp [Value.ownBlock] at e
  · simp [Value.ownBlock] at e
    subst e
    rw [h2] at hg
    cases hg
theorem TB.rep {w : World} {base p b : Nat} {clock : Int} {ss : List SV} (h : TB w base p b clock ss) {x : Int} {s : SV} (hf : findS x ss = some s) : OD w base s.D s.r := h.2.2.2.2 s (findS_mem hf).1
theorem zeroS (w : World) : (zeroValue 44).run Tryd.prog w = .ok zV w := by kernel_rfl

set_option maxRecDepth 100000 in
set_option maxHeartbeats 1000000 in
theorem cloneb_any (D : Value) (d : List UInt8) (w : World) (h : RD w D d) :
    Calls Tryd.prog 25 #[D] w fun e w' => ∃ D', e = .returned D' ∧ OD w' w.heap.size D' d ∧ Below w.heap.size w w' := by
  obtain ⟨B, c, rfl, hr, hc, hl, hB⟩ := h
  cases B with
  | none =>
    obtain rfl := hB rfl
    have h0 : d.length = 0 := by omega
    obtain rfl : d = [] := List.eq_nil_of_length_eq_zero h0
    have hn := fun w => Lib.run_eql_slice_nil (P := Tryd.prog) w 28 5 none 0 0 0 0 Tryd.underlying28
    go_enter Tryd.func25, Tryd.ntmps25
    go_wp2_with fail
    go_ret
    exact ⟨_, rfl, ⟨World.ownsRow_nil _ _ _ _, by simp⟩, Below.refl _ _⟩
  | some a =>
    have hn := fun w => Lib.run_eql_slice_nil (P := Tryd.prog) w 28 5 (some a) d.length c 0 0 Tryd.underlying28
    go_enter Tryd.func25, Tryd.ntmps25
    go_wp2_with (at_builtin; refine wpList_append_bytes (w := w.alloc (.cells #[] 5)) rfl (.tmp 5) (.tmp 6) rfl w.heap.size (.slice (some ⟨w.heap.size, 0, none⟩) 0 0) [] d 0 d.length c (some a) rfl rfl (World.ownsRow_made w #[] 0 (Nat.le_refl _) (by unfold maxLen; omega) rfl) (hr.alloc _) rfl (fun h => by cases h) rfl (by omega) (by simp) ?_; intro v' w' own hg)
    go_ret
    exact ⟨_, rfl, ⟨by simpa using own, hl⟩, (below_alloc _ _).grown hg (by simp) (fun k hk => by simp [Value.ownBlock] at hk; omega)⟩

set_option maxRecDepth 100000 in
set_option maxHeartbeats 1000000 in
theorem new_any (w : World) :
    Calls Tryd.prog 8 #[] w fun e w' => ∃ p b, e = .returned (.pointer (some ⟨p, 0, none⟩)) ∧ TB w' w.heap.size p b 0 [] ∧ Below w.heap.size w w' := by
  have hmm := @run_makeMap Tryd.prog
  go_enter Tryd.func8, Tryd.ntmps8
  go_wp2_with fail
  go_ret
  refine ⟨_, w.heap.size, rfl, ⟨by simp, Nat.le_refl _, (by have := heap_alloc_new (w.alloc (.map #[] 0)) (.cells #[.map (some w.heap.size), .int .i64 0] 62); simpa using this), (IM.made w).below (below_alloc _ _), fun s hs => by cases hs⟩, (below_alloc _ _).alloc (by simp) _⟩

theorem clock_any (base p b : Nat) (clock : Int) (ss : List SV) (w : World) (h : TB w base p b clock ss) :
    Calls Tryd.prog 20 #[.pointer (some ⟨p, 0, none⟩)] w fun e w' => e = .returned (.int .i64 clock) ∧ w' = w := by
  have c1 := h.cc
  go_enter Tryd.func20, Tryd.ntmps20
  go_wp2_with fail
  go_ret
  exact ⟨rfl, rfl⟩

def askK (ss : List SV) (x q : Int) : Int := match findS x ss with
  | none => 4
  | some s => if s.l < q then 1 else if q < s.l ∨ q = 0 then 3 else 2
def askR (ss : List SV) (x q : Int) : List UInt8 := match findS x ss with
  | none => []
  | some s => if s.l < q then [] else if q < s.l ∨ q = 0 then [] else s.r

set_option maxRecDepth 100000 in
set_option maxHeartbeats 1000000 in
theorem ask_any (base p b : Nat) (clock : Int) (ss : List SV) (x q : Int) (w : World) (h : TB w base p b clock ss) (wx : (Lit.int .i64 x).wf = true) :
    Calls Tryd.prog 10 #[.pointer (some ⟨p, 0, none⟩), .int .i64 x, .int .i64 q] w fun e w' => ∃ D, e = .returned (.tuple #[.int .i64 (askK ss x q), D]) ∧ OD w' w.heap.size D (askR ss x q) ∧ Below w.heap.size w w' := by
  have c0 := h.cm
  have hlk := h.2.2.2.1.look_ok Tryd.underlying60 (zeroS w) wx
  rw [look_sI] at hlk
  cases hf : findS x ss with
  | none =>
    rw [hf] at hlk
    simp only [Option.map_none, Option.getD_none, Option.isSome_none, zV] at hlk
    have e1 : askK ss x q = 4 := by simp [askK, hf]
    have e2 : askR ss x q = [] := by simp [askR, hf]
    rw [e1, e2]
    clear h hf e1 e2
    go_enter Tryd.func10, Tryd.ntmps10
    go_wp2_with fail
    go_ret2
    exact ⟨_, rfl, OD.nil _ _, below_alloc _ _⟩
  | some s =>
    rw [hf] at hlk
    simp only [Option.map_some, Option.getD_some, Option.isSome_some, sV] at hlk
    have HO := Lib.hid (h.rep hf).rd
    simp only [SV.D] at hlk HO
    obtain ⟨A, hA⟩ : ∃ A, A = s.A := ⟨_, rfl⟩
    obtain ⟨c, hc⟩ : ∃ c, c = s.c := ⟨_, rfl⟩
    rw [← hA, ← hc] at hlk HO
    clear hA hc
    by_cases h1 : s.l < q
    · have e1 : askK ss x q = 1 := by simp [askK, hf, h1]
      have e2 : askR ss x q = [] := by simp [askR, hf, h1]
      rw [e1, e2]
      clear h hf e1 e2
      go_enter Tryd.func10, Tryd.ntmps10
      go_wp2_with fail
      go_ret2
      exact ⟨_, rfl, OD.nil _ _, below_alloc _ _⟩
    · by_cases h2 : q < s.l
      · have e1 : askK ss x q = 3 := by simp [askK, hf, h1, h2]
        have e2 : askR ss x q = [] := by simp [askR, hf, h1, h2]
        rw [e1, e2]
        clear h hf e1 e2
        go_enter Tryd.func10, Tryd.ntmps10
        go_wp2_with fail
        go_ret2
        exact ⟨_, rfl, OD.nil _ _, below_alloc _ _⟩
      · by_cases h3 : q = 0
        · subst h3
          have e1 : askK ss x 0 = 3 := by simp [askK, hf, h1]
          have e2 : askR ss x 0 = [] := by simp [askR, hf, h1]
          rw [e1, e2]
          clear h hf e1 e2
          go_enter Tryd.func10, Tryd.ntmps10
          go_wp2_with fail
          go_ret2
          exact ⟨_, rfl, OD.nil _ _, below_alloc _ _⟩
        · have e1 : askK ss x q = 2 := by simp [askK, hf, h1, h2, h3]
          have e2 : askR ss x q = s.r := by simp [askR, hf, h1, h2, h3]
          rw [e1, e2]
          have h3b : (q == 0) = false := by simp [h3]
          have b1 := below_alloc w (.cells #[.int .i64 s.i, .int .i64 s.l, .int .i64 s.u, .slice A s.r.length c] 44)
          have HC := Lib.hid (cloneb_any _ _ _ (HO.out.below b1))
          clear h hf e1 e2 h3
          go_enter Tryd.func10, Tryd.ntmps10
          go_wp2_with (go_at_call 25; refine HC.out.mono ?_; rintro e w2 ⟨D, rfl, od, b2⟩)
          go_ret2
          exact ⟨_, rfl, od.lower (by simp), below_then b1 b1.size b2⟩
end Go.Proofs.YtbdokphemdkhmaaDoor
