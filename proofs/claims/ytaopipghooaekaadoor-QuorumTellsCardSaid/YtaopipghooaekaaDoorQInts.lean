/- What a slice of numbers reads as; numbers that are owned. -/
import Derived.Test.YtaopipghooaekaaDoorBase
set_option linter.unusedVariables false
set_option linter.unusedSimpArgs false
namespace Go.Proofs.YtaopipghooaekaaDoor
open Go.RowKit

/-- A slice's address reads as numbers. -/
def RI (w : World) (A : Option Addr) (ns : List Int) : Prop :=
  ∀ i (h : i < ns.length), ∃ a, A = some a ∧ w.cell? (a.add i) = some (.int .i64 ns[i])

theorem RI.nil (w : World) (A : Option Addr) : RI w A [] := fun i h => absurd h (by simp)
theorem RI.addr {w : World} {A : Option Addr} {ns : List Int} (h : RI w A ns) (h0 : 0 < ns.length) :
    ∃ b o, A = some ⟨b, o, none⟩ ∧ b < w.heap.size ∧ ∀ i (hi : i < ns.length), w.cell? ⟨b, o + i, none⟩ = some (.int .i64 ns[i]) := by
  obtain ⟨⟨b, o, s⟩, rfl, hc⟩ := h 0 h0
  have hs : s = none := by
    cases s with
    | none => rfl
    | some x => simp [World.cell?, Addr.add] at hc; split at hc <;> simp_all
  subst hs
  refine ⟨b, o, rfl, ?_, fun i hi => ?_⟩
  · have := World.block_lt_of_cell? _ _ hc
    simpa [Addr.add] using this
  · obtain ⟨a, ha, hc⟩ := h i hi
    obtain rfl := Option.some.inj ha
    rw [Addr.add_lit] at hc
    exact hc
theorem RI.mk' {w : World} {b o : Nat} {ns : List Int} (h : ∀ i (hi : i < ns.length), w.cell? ⟨b, o + i, none⟩ = some (.int .i64 ns[i])) : RI w (some ⟨b, o, none⟩) ns :=
  fun i hi => ⟨_, rfl, by rw [Addr.add_lit]; exact h i hi⟩
theorem RI.lt {w : World} {A : Option Addr} {ns : List Int} (h : RI w A ns) {a : Addr} (ha : A = some a) (h0 : 0 < ns.length) : a.block < w.heap.size := by
  obtain ⟨b, o, e, hlt, _⟩ := h.addr h0
  rw [ha] at e
  obtain rfl := Option.some.inj e
  exact hlt
/-- what was there is there, if its block stands -/
theorem RI.step {w w' : World} {A : Option Addr} {ns : List Int} (h : RI w A ns) (hb : ∀ a, A = some a → 0 < ns.length → w'.heap[a.block]? = w.heap[a.block]?) : RI w' A ns := by
  intro i hi
  obtain ⟨a, ha, hc⟩ := h i hi
  refine ⟨a, ha, ?_⟩
  rw [World.cell?_of_block (w := w) (by rw [show (a.add i).block = a.block by unfold Addr.add; split <;> rfl]; exact hb a ha (by omega))]
  exact hc
theorem RI.below {w w' : World} {A : Option Addr} {ns : List Int} (h : RI w A ns) (hb : Below w.heap.size w w') : RI w' A ns :=
  h.step fun a ha h0 => hb.block _ (h.lt ha h0)
theorem RI.drewN {w : World} {A : Option Addr} {ns : List Int} (h : RI w A ns) (m : Nat) : RI (w.drewN m) A ns := h.step fun _ _ _ => rfl
theorem RI.alloc {w : World} {A : Option Addr} {ns : List Int} (h : RI w A ns) (o : Obj) : RI (w.alloc o) A ns :=
  h.below ((Below.refl _ _).alloc (Nat.le_refl _) o)
/-- a part of what is read -/
theorem RI.cut {w : World} {A : Option Addr} {ns : List Int} (h : RI w A ns) (l m : Nat) (hm : l ≤ m) (hl : m ≤ ns.length) (c : Nat) (hc : c = l → m = l) :
    RI w (if c = l then A else A.map (·.add (l * 1))) ((ns.drop l).take (m - l)) := by
  intro i hi
  have hi' : i < m - l := by simp at hi; omega
  obtain ⟨a, ha, hcell⟩ := h (l + i) (by omega)
  subst ha
  have hne : ¬ c = l := fun e => by have := hc e; omega
  refine ⟨a.add l, by simp [hne], ?_⟩
  have e : (a.add l).add i = a.add (l + i) := by
    unfold Addr.add
    by_cases h1 : l = 0
    · simp [h1]
    · by_cases h2 : i = 0
      · simp [h1, h2]
      · simp [h1, h2, Nat.add_assoc]
  rw [e, hcell]
  simp

theorem RI.take {w : World} {A : Option Addr} {ns : List Int} (h : RI w A ns) (m : Nat) : RI w A (ns.take m) := by
  intro i hi
  obtain ⟨a, ha, hc⟩ := h i (by simp at hi; omega)
  exact ⟨a, ha, by rw [hc]; simp⟩
theorem RI.drop {w : World} {g o : Nat} {ns : List Int} (h : RI w (some ⟨g, o, none⟩) ns) (k : Nat) : RI w (some ⟨g, o + k, none⟩) (ns.drop k) := by
  refine RI.mk' fun i hi => ?_
  obtain ⟨a, ha, hc⟩ := h (k + i) (by simp at hi; omega)
  obtain rfl := Option.some.inj ha
  rw [Addr.add_lit] at hc
  rw [Nat.add_assoc, hc]
  simp
/-- numbers as values -/
def iv (ns : List Int) : List Value := ns.map fun n => .int .i64 n
@[simp] theorem iv_length (ns : List Int) : (iv ns).length = ns.length := by simp [iv]
theorem iv_append (a b : List Int) : iv (a ++ b) = iv a ++ iv b := by simp [iv]
theorem iv_one (ns : List Int) : ∀ v ∈ iv ns, v.oneCell' = true := by
  intro v hv
  simp only [iv, List.mem_map] at hv
  obtain ⟨x, _, rfl⟩ := hv
  rfl
/-- the shelf's own words of a slice that is read -/
theorem RI.shelf {w : World} {b o : Nat} {ns : List Int} (h : RI w (some ⟨b, o, none⟩) ns) : ∀ j, j < ns.length → w.cell? ⟨b, o + j, none⟩ = some (.int .i64 (ns.getD j 0)) := by
  intro j hj
  obtain ⟨a, ha, hc⟩ := h j hj
  cases ha
  rw [Addr.add_lit] at hc
  rw [hc]
  simp [List.getD, hj]
theorem RI.own {w : World} {base : Nat} {e : TypeId} {n c : Nat} {A : Option Addr} {ns : List Int} (h : w.ownsRow base e 1 (.slice A n c) n (iv ns)) : RI w A ns := by
  rcases h.2 with ⟨h1, rfl⟩ | ⟨g, cap, cur, h1, _, hg, _, _, _, ht⟩
  · have h0 := h.1
    simp at h0
    subst h0
    exact RI.nil _ _
  · cases h1
    have hl := h.1
    simp at hl
    refine RI.mk' fun i hi => ?_
    have hj : (iv ns)[i]? = some (.int .i64 ns[i]) := by simp [iv, hi]
    rw [← ht, List.getElem?_take_of_lt (by omega)] at hj
    simp only [World.cell?, hg, Option.isSome_none, Bool.false_eq_true, ↓reduceIte, Nat.zero_add]
    simpa using hj
theorem RI.block {w : World} {g : Nat} {cs : Array Value} {t : TypeId} {fr : Nat × Nat} {ns : List Int} (h : w.heap[g]? = some (.cells cs t fr)) (hc : cs.toList.take ns.length = iv ns) : RI w (some ⟨g, 0, none⟩) ns :=
  RI.mk' fun i hi => by
    have hj : (iv ns)[i]? = some (.int .i64 ns[i]) := by simp [iv, hi]
    rw [← hc, List.getElem?_take_of_lt hi] at hj
    simp only [World.cell?, h, Option.isSome_none, Bool.false_eq_true, ↓reduceIte, Nat.zero_add]
    simpa using hj
theorem below_draws {B : Nat} {a w : World} (h : Below B a w) (n : Nat) : Below B a (w.drewN n) := ⟨h.os, h.tape, h.output, h.size, h.block⟩
theorem below_of_drew {w w' : World} {m : Nat} (h : Below (w.drewN m).heap.size (w.drewN m) w') : Below w.heap.size w w' := ⟨h.os, h.tape, h.output, h.size, h.block⟩
/-- a slice value reads as numbers -/
def RV (w : World) (v : Value) (ns : List Int) : Prop := ∃ A c, v = .slice A ns.length c ∧ RI w A ns ∧ ns.length ≤ c ∧ (A = none → c = 0)
theorem RV.below {w w' : World} {v : Value} {ns : List Int} (h : RV w v ns) (b : Below w.heap.size w w') : RV w' v ns := by
  obtain ⟨A, c, h1, h2, r⟩ := h
  exact ⟨A, c, h1, h2.below b, r⟩
theorem RV.nil (w : World) : RV w (.slice none 0 0) [] := ⟨none, 0, rfl, RI.nil _ _, by simp, fun _ => rfl⟩
end Go.Proofs.YtaopipghooaekaaDoor
