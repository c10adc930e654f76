/- Two trails that are pieces of logs: what Merge and Compact keep. -/
import Derived.Test.YtkjpfjgaabbggaaDoorTLogs
import Derived.Test.YtkjpfjgaabbggaaDoorTMergeAll
set_option linter.unusedVariables false
set_option linter.unusedSimpArgs false
namespace Go.Proofs.YtkjpfjgaabbggaaDoor
open Go.RowKit

theorem own_block {w : World} {base : Nat} {e : TypeId} {size n : Nat} {v : Value} {xs : List Value} (h : w.ownsRow base e size v n xs) {k : Nat} (hk : v.ownBlock = some k) : ∃ cur, w.heap[k]? = some (.cells cur e (0, 0)) := by
  rcases h.2 with ⟨e1, _⟩ | ⟨g, cap, cur, e1, _, hg, _⟩
  · rw [e1] at hk; simp [Value.ownBlock] at hk
  · rw [e1] at hk; simp [Value.ownBlock] at hk; subst hk; exact ⟨cur, hg⟩
/-- a block of another type changed -/
theorem OE.other {w w' : World} {base q : Nat} {v : Value} {es : List Ent} {Ds : List Value} {cs : Array Value} (h : OE w base v es Ds) (hq : w.heap[q]? = some (.cells cs 34 (0, 0))) (hw : ∀ k, k < w.heap.size → k ≠ q → w'.heap[k]? = w.heap[k]?) : OE w' base v es Ds := by
  refine h.step (fun k hk => hw k (h.2.1.lt k hk).2 fun e => ?_) (fun D hD k hk => hw k (h.dlt D hD k hk).2 fun e => ?_)
  · subst e
    obtain ⟨cur, hc⟩ := own_block h.2.1 hk
    rw [hq] at hc
    injection hc with hc
    injection hc with _ ht
    exact absurd ht (by decide)
  · subst e
    obtain ⟨j, hj, rfl⟩ := List.getElem_of_mem hD
    obtain ⟨cur, hc⟩ := own_block (h.2.2 j (by rw [← h.1]; exact hj) hj).1 hk
    rw [hq] at hc
    injection hc with hc
    injection hc with _ ht
    exact absurd ht (by decide)
theorem OE.frm {w w' : World} {base : Nat} {v : Value} {es : List Ent} {Ds : List Value} {S : Nat → Prop} (h : OE w base v es Ds) (f : Frm S w w') (hS : ∀ k, S k → k < base) : OE w' base v es Ds :=
  h.step (fun k hk => f.block k (h.2.1.lt k hk).2 fun s => by have := hS k s; have := (h.2.1.lt k hk).1; omega) (fun D hD k hk => f.block k (h.dlt D hD k hk).2 fun s => by have := hS k s; have := (h.dlt D hD k hk).1; omega)

/-- a trail that is a piece of a log -/
def StT (ls : List (List Ent)) (base p : Nat) (w : World) : Prop :=
  ∃ (i : Nat) (t : Int) (v : Value) (es : List Ent) (Ds : List Value), TO w base p i t v es Ds ∧ Piece ls i t es
theorem StT.below {ls : List (List Ent)} {base p : Nat} {w w' : World} (h : StT ls base p w) (b : Below w.heap.size w w') : StT ls base p w' := by
  obtain ⟨i, t, v, es, Ds, h1, h2⟩ := h
  exact ⟨i, t, v, es, Ds, h1.below b, h2⟩
theorem StT.more {ls ms : List (List Ent)} {base p : Nat} {w : World} (h : StT ls base p w) (hs : ∀ l ∈ ls, l ∈ ms) : StT ms base p w := by
  obtain ⟨i, t, v, es, Ds, h1, h2⟩ := h
  exact ⟨i, t, v, es, Ds, h1, h2.more hs⟩
theorem StT.other {ls : List (List Ent)} {base p q : Nat} {w w' : World} (h : StT ls base p w) (hq : StT ls base q w) (hne : p ≠ q) (g : w.grownBy w' (some q)) : StT ls base p w' := by
  obtain ⟨i, t, v, es, Ds, ⟨h1, h2, h3⟩, h4⟩ := h
  obtain ⟨i', t', v', es', Ds', ⟨_, hb, _⟩, _⟩ := hq
  have hw : ∀ k, k < w.heap.size → k ≠ q → w'.heap[k]? = w.heap[k]? := fun k hk hkq => g.block k hk (by simpa using hkq)
  exact ⟨i, t, v, es, Ds, ⟨h1, (hw p (Array.getElem?_eq_some_iff.1 h2).1 hne).trans h2, h3.other hb hw⟩, h4⟩
theorem StT.lt {ls : List (List Ent)} {base p : Nat} {w : World} (h : StT ls base p w) : p < w.heap.size := by
  obtain ⟨i, t, v, es, Ds, h1, _⟩ := h
  exact h1.lt
theorem frm_of_grown {w w' : World} {p pa pb : Nat} (g : w.grownBy w' (some p)) (h : p = pa ∨ p = pb) : Frm (fun k => k = pa ∨ k = pb) w w' :=
  ⟨g.os, g.tape, g.output, g.size, fun k hk hs => g.block k hk (by simp; rintro rfl; exact hs h)⟩

theorem merge_one {N : Nat} {ls : List (List Ent)} (hL : Logs N ls) (hls : ∀ l ∈ ls, l.length ≤ 100) {base p : Nat} {w : World} (h : StT ls base p w) (hbase : base ≤ w.heap.size) {l : List Ent} (hl : l ∈ ls) {prev many : Nat} (hpr : prev ≤ l.length) {m : List Ent} (hm : m = (l.drop prev).take many)
    (A : Option Addr) (len ca : Nat) (Dm : List Value) (hre : RE w A m Dm) (hlen : m.length = len) (hlc : len ≤ ca) (hA : A = none → len = 0) (term : Int) (ht : term = termN 0 l prev) :
    Calls Tryd.prog 12 #[.pointer (some ⟨p, 0, none⟩), .int .i64 prev, .int .i64 term, .slice A len ca] w fun e w' => ∃ V, e = .returned V ∧ StT ls base p w' ∧ w.grownBy w' (some p) := by
  obtain ⟨i, t, v, es, Ds, hT, hP⟩ := h
  have hle : i + es.length ≤ 100 := by obtain ⟨l1, hl1, h1, _⟩ := hP; have := hls l1 hl1; omega
  have hml : m.length ≤ 100 := by have := hls l hl; rw [hm, List.length_take, List.length_drop]; omega
  refine (merge_wide base p i t v es Ds A len ca m Dm prev term w hT hre hlen hlc hA (by omega) (by omega) (by omega) (by omega) hbase).mono ?_
  rintro e w' ⟨M, v', Ds', Dm', rfl, hg, hT', _⟩
  obtain ⟨R0, R1, R2, R3⟩ : Nat × Int × List Ent × List Ent := mergeT i t es prev term m
  refine ⟨_, rfl, ⟨i, t, v', _, Ds', hT', ?_⟩, hg⟩
  subst ht
  exact merge_piece hL hP hl hpr hm (e := (mergeT i t es prev (termN 0 l prev) m).1) (n := (mergeT i t es prev (termN 0 l prev) m).2.1) (more := (mergeT i t es prev (termN 0 l prev) m).2.2.2) rfl

theorem compact_one {N : Nat} {ls : List (List Ent)} (hls : ∀ l ∈ ls, l.length ≤ 100) {base p : Nat} {w : World} (h : StT ls base p w) (hbase : base ≤ w.heap.size) (x : Int) :
    Calls Tryd.prog 18 #[.pointer (some ⟨p, 0, none⟩), .int .i64 x] w fun e w' => ∃ V, e = .returned V ∧ StT ls base p w' ∧ w.grownBy w' (some p) := by
  obtain ⟨i, t, v, es, Ds, hT, hP⟩ := h
  have hle : i + es.length ≤ 100 := by obtain ⟨l1, hl1, h1, _⟩ := hP; have := hls l1 hl1; omega
  refine (compact_any base p i t v es Ds x w hT (by omega) (by omega) (by omega) hbase).mono ?_
  rintro e w' ⟨rfl, hg, v', Ds', hT'⟩
  obtain ⟨i', h1, h2⟩ := compact_piece hP x
  rw [h1] at hT'
  exact ⟨_, rfl, ⟨i', _, v', _, Ds', hT', h2⟩, hg⟩
end Go.Proofs.YtkjpfjgaabbggaaDoor
