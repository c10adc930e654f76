/- The trail in plain words: entries, the term of an index, going back, merging; nothing of the program stands here. -/
import Derived.Test.YtkjpfjgaabbggaaDoorBase
set_option linter.unusedVariables false
set_option linter.unusedSimpArgs false
namespace Go.Proofs.YtkjpfjgaabbggaaDoor
open Go.RowKit

/-- an entry -/
structure Ent where
  i : Int
  t : Int
  k : Int
  d : List UInt8

/-- a row behind an index and a term -/
def follows : Int → Int → List Ent → Bool
  | _, _, [] => true
  | i, t, e :: es => if e.i = i + 1 ∧ t ≤ e.t ∧ 0 ≤ e.k then follows (i + 1) e.t es else false
/-- the last term of a row -/
def endT : Int → List Ent → Int
  | t, [] => t
  | _, e :: es => endT e.t es
/-- the term of the one at n of a row behind a term: 0 is that term -/
def termN (t : Int) (es : List Ent) : Nat → Int
  | 0 => t
  | n + 1 => match es[n]? with | some e => e.t | none => 0
/-- is the index one of the trail's? -/
def inT (i : Int) (es : List Ent) (x : Int) : Bool := decide (i ≤ x ∧ x ≤ i + es.length)
/-- the term of an index -/
def termT (i t : Int) (es : List Ent) (x : Int) : Int := if inT i es x = true then termN t es (x - i).toNat else 0
/-- going back: from n on down, to the first one of another term -/
def backN (t : Int) (es : List Ent) (T : Int) : Nat → Nat
  | 0 => 0
  | n + 1 => if termN t es n = T then backN t es T n else n
def backT (i t : Int) (es : List Ent) (x : Int) : Int :=
  if i + es.length < x then i + es.length else if x < i then i else i + backN t es (termT i t es x) (x - i).toNat

theorem follows_cons {i t : Int} {e : Ent} {es : List Ent} (h : follows i t (e :: es) = true) : e.i = i + 1 ∧ t ≤ e.t ∧ 0 ≤ e.k ∧ follows (i + 1) e.t es = true := by
  simp only [follows] at h
  split at h
  · rename_i h'; exact ⟨h'.1, h'.2.1, h'.2.2, h⟩
  · cases h
theorem follows_get : ∀ {es : List Ent} {i t : Int}, follows i t es = true → ∀ j (h : j < es.length), es[j].i = i + 1 + j
  | e :: es, i, t, h, 0, hj => by have := follows_cons h; simp; exact this.1
  | e :: es, i, t, h, j + 1, hj => by
    have := follows_cons h
    have ih := follows_get this.2.2.2 j (by simpa using hj)
    simp only [List.getElem_cons_succ]
    rw [ih]
    push_cast
    omega
theorem follows_drop : ∀ {es : List Ent} {i t : Int} (n : Nat), n ≤ es.length → follows i t es = true → follows (i + n) (termN t es n) (es.drop n) = true
  | es, i, t, 0, _, h => by simpa [termN] using h
  | [], i, t, n + 1, hn, _ => by simp at hn
  | e :: es, i, t, n + 1, hn, h => by
    have hc := follows_cons h
    have ih := follows_drop (i := i + 1) (t := e.t) n (by simpa using hn) hc.2.2.2
    have e1 : termN t (e :: es) (n + 1) = termN e.t es n := by cases n <;> simp [termN]
    rw [e1, List.drop_succ_cons]
    have e2 : i + ((n + 1 : Nat) : Int) = i + 1 + (n : Nat) := by push_cast; omega
    rw [e2]
    exact ih
theorem endT_append : ∀ (es fs : List Ent) (t : Int), endT t (es ++ fs) = endT (endT t es) fs
  | [], _, _ => rfl
  | e :: es, fs, t => by simp only [List.cons_append, endT]; exact endT_append es fs e.t
theorem termN_end : ∀ (es : List Ent) (t : Int), termN t es es.length = endT t es
  | [], t => rfl
  | e :: es, t => by
    have ih := termN_end es e.t
    simp only [List.length_cons, endT]
    rw [← ih]
    cases h : es.length <;> simp [termN, h]
theorem termT_end (i t : Int) (es : List Ent) : termT i t es (i + es.length) = endT t es := by
  have h : inT i es (i + es.length) = true := decide_eq_true (by omega)
  unfold termT
  rw [if_pos h, ← termN_end]
  congr 1
  omega
theorem backN_lt (t : Int) (es : List Ent) (T : Int) : ∀ n, 0 < n → backN t es T n < n
  | 0, h => absurd h (by omega)
  | n + 1, _ => by
    simp only [backN]
    split
    · cases n with
      | zero => simp [backN]
      | succ n => have := backN_lt t es T (n + 1) (by omega); omega
    · omega
theorem backN_le (t : Int) (es : List Ent) (T : Int) (n : Nat) : backN t es T n ≤ n := by
  cases n with
  | zero => simp [backN]
  | succ n => have := backN_lt t es T (n + 1) (by omega); omega
theorem backT_bounds (i t : Int) (es : List Ent) (x : Int) : i ≤ backT i t es x ∧ backT i t es x ≤ i + es.length ∧ (i + es.length < x → backT i t es x = i + es.length) ∧ (i < x → x ≤ i + es.length → backT i t es x < x) ∧ (x ≤ i → backT i t es x = i) := by
  unfold backT
  refine ⟨?_, ?_, ?_, ?_, ?_⟩
  · split
    · omega
    · split <;> omega
  · split
    · omega
    · split
      · omega
      · have := backN_le t es (termT i t es x) (x - i).toNat
        omega
  · intro h; rw [if_pos h]
  · intro h1 h2
    rw [if_neg (by omega), if_neg (by omega)]
    have := backN_lt t es (termT i t es x) (x - i).toNat (by omega)
    omega
  · intro h
    rw [if_neg (by omega)]
    split
    · rfl
    · rw [show (x - i).toNat = 0 by omega]; simp [backN]
end Go.Proofs.YtkjpfjgaabbggaaDoor
