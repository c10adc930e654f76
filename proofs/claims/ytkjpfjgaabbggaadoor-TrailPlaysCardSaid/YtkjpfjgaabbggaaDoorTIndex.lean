/- slices.IndexFunc at entries, over Merge's closure: the contract. -/
import Derived.Test.YtkjpfjgaabbggaaDoorTNew
import Derived.Deep.LoopGhost
import Derived.Deep.QuietTactic
import Derived.BigQuiet
import Derived.Outline
set_option linter.unusedVariables false
set_option linter.unusedSimpArgs false
namespace Go.Proofs.YtkjpfjgaabbggaaDoor
open Go.RowKit

theorem below_draws {B : Nat} {a w : World} (h : Below B a w) (n : Nat) : Below B a (w.drewN n) := ⟨h.os, h.tape, h.output, h.size, h.block⟩
/-- is an entry new to a trail? -/
def isNew (i t : Int) (es : List Ent) (e : Ent) : Bool := !(inT i es e.i) || (termT i t es e.i != e.t)

set_option maxRecDepth 100000 in
set_option maxHeartbeats 1000000 in
theorem clos_any (p q : Nat) (i t : Int) (L : Option Addr) (c : Nat) (es : List Ent) (Ds : List Value) (e : Ent) (D : Value) (w : World) (hq : w.cell? ⟨q, 0, none⟩ = some (.pointer (some ⟨p, 0, none⟩))) (h : TR w p i t (.slice L es.length c)) (hre : RE w L es Ds) (hd : RD w D e.d) (h0 : 0 ≤ i) (h1 : i ≤ 10000000000000) (h2 : es.length ≤ 10000000000000) :
    Calls Tryd.prog 35 #[.agg #[.int .i64 e.i, .int .i64 e.t, .int .i64 e.k, D], .pointer (some ⟨q, 0, none⟩)] w fun r w' => r = .returned (.bool (isNew i t es e)) ∧ Below w.heap.size w w' := by
  obtain ⟨B, cb, rfl, -⟩ := hd
  have hb0 : Below w.heap.size w (w.alloc (.cells #[.int .i64 e.i, .int .i64 e.t, .int .i64 e.k, .slice B e.d.length cb] 44)) := below_alloc _ _
  have HT := Lib.hid (fun m => term_any p i t L c es Ds e.i _ ((show TR _ p i t _ from ⟨below_cell hb0 h.1, below_cell hb0 h.2.1, below_cell hb0 h.2.2⟩).drewN (m := m)) ((hre.below hb0).drewN (m := m)) h0 h1 h2)
  have hql := World.block_lt_of_cell? _ _ hq
  have hq1 : ∀ m, ((w.alloc (.cells #[.int .i64 e.i, .int .i64 e.t, .int .i64 e.k, .slice B e.d.length cb] 44)).drewN m).cell? ⟨q, 0, none⟩ = some (.pointer (some ⟨p, 0, none⟩)) := fun m => below_cell hb0 hq
  clear h hre hq
  obtain ⟨a, ha⟩ : ∃ a, a = inT i es e.i := ⟨_, rfl⟩
  obtain ⟨b, hb⟩ : ∃ b, b = termT i t es e.i := ⟨_, rfl⟩
  have hN : isNew i t es e = (!a || (b != e.t)) := by rw [ha, hb]; rfl
  rw [hN]
  rw [← ha, ← hb] at HT
  clear ha hb hN
  cases a
  all_goals
    go_enter Tryd.func35, Tryd.ntmps35
    go_wp2_with fail
    go_quiet ((go_at_call 16; exact Calls.quiet_of (HT.out _)))
    go_wp2_with fail
    go_ret
    exact ⟨rfl, below_draws hb0 _⟩

/-- the first one that is new; below 0: there is none -/
def idxNew (i t : Int) (es l : List Ent) : Int := if l.findIdx (isNew i t es) < l.length then (l.findIdx (isNew i t es) : Nat) else -1

set_option maxRecDepth 100000 in
set_option maxHeartbeats 1000000 in
theorem idx_any (p q : Nat) (i t : Int) (L : Option Addr) (c : Nat) (es : List Ent) (Ds : List Value) (A : Option Addr) (len ca : Nat) (l : List Ent) (Dl : List Value) (w : World) (hq : w.cell? ⟨q, 0, none⟩ = some (.pointer (some ⟨p, 0, none⟩))) (h : TR w p i t (.slice L es.length c)) (hre : RE w L es Ds)
    (hrl : RE w A l Dl) (hl : l.length = len) (hn : len ≤ 10000000000000) (h0 : 0 ≤ i) (h1 : i ≤ 10000000000000) (h2 : es.length ≤ 10000000000000) :
    Calls Tryd.prog 34 #[.slice A len ca, .func (.func 35) #[] #[.pointer (some ⟨q, 0, none⟩)]] w fun r w' => r = .returned (.int .i64 (idxNew i t es l)) ∧ Below w.heap.size w w' := by
  have HC := Lib.hid (fun (wr : World) (b : Below w.heap.size w wr) (e : Ent) (D : Value) (hd : RD wr D e.d) => clos_any p q i t L c es Ds e D wr (below_cell b hq) ⟨below_cell b h.1, below_cell b h.2.1, below_cell b h.2.2⟩ (hre.below b) hd h0 h1 h2)
  have HR := Lib.hid hrl
  have HL := Lib.hid hl
  clear hq h hre hrl hl
  go_enter Tryd.func34, Tryd.ntmps34
  go_wp2_with fail
  go_loopg [8] len (fun m ki wr => ∃ k : Nat, m = len - k ∧ k ≤ len ∧ ki = .int .i64 k ∧ Hid (∀ j (hj : j < l.length), j < k → isNew i t es l[j] = false) ∧ Below w.heap.size w wr)
  case atStart => exact ⟨0, by omega, by omega, rfl, Lib.hid (fun j _ h => absurd h (by omega)), Below.refl _ _⟩
  case round =>
    obtain ⟨k, hm, hk, rfl, HF, bel⟩ := hrel
    by_cases hkl : k < len
    · have hkl1 : (k : Int) < (len : Int) := by omega
      have hke : k < l.length := by rw [HL.out]; exact hkl
      obtain ⟨g, o, rfl, hg, -⟩ := HR.out.addr (by omega)
      obtain ⟨c0, c1, c2, c3, hd⟩ := (HR.out.below bel).at k hke
      obtain ⟨E, hE⟩ : ∃ E, E = l[k] := ⟨_, rfl⟩
      have HE := Lib.hid hE
      rw [← hE] at c0 c1 c2 hd
      obtain ⟨D, hD⟩ : ∃ D, D = Dl[k]'(by rw [HR.out.1]; exact hke) := ⟨_, rfl⟩
      rw [← hD] at c3 hd
      have HC1 := Lib.hid (HC.out wr bel E D hd)
      obtain ⟨B, cb, hDs, -⟩ := hd
      clear hE hD
      subst hDs
      cases hN : isNew i t es E with
      | true =>
        rw [hN] at HC1
        have HN := Lib.hid hN
        clear hN
        go_wp2_with fail
        refine HC1.out.mono ?_
        rintro e w1 ⟨rfl, b1⟩
        go_wp2_with fail
        go_ret
        refine ⟨?_, below_then bel bel.size b1⟩
        have hfi : l.findIdx (isNew i t es) = k := by
          rw [List.findIdx_eq hke]
          exact ⟨by rw [← HE.out]; exact HN.out, fun j hj => HF.out j (by omega) hj⟩
        unfold idxNew
        rw [hfi, if_pos hke]
        rfl
      | false =>
        rw [hN] at HC1
        have HN := Lib.hid hN
        clear hN
        go_wp2_with fail
        refine HC1.out.mono ?_
        rintro e w1 ⟨rfl, b1⟩
        go_wp2_with fail
        go_roundg (len - (k + 1))
        case measure => omega
        case rel =>
          refine ⟨k + 1, rfl, by omega, by go_num, fun j hj hjk => ?_, below_then bel bel.size b1⟩
          by_cases hjk2 : j = k
          · subst hjk2
            rw [← HE.out]; exact HN.out
          · exact HF.out j hj (by omega)
    · obtain rfl : k = len := by omega
      go_wp2_with fail
      go_ret
      refine ⟨?_, bel⟩
      have hfi : l.findIdx (isNew i t es) = l.length := by
        rw [List.findIdx_eq_length]
        intro e he
        obtain ⟨j, hj, rfl⟩ := List.getElem_of_mem he
        rw [HF.out j hj (by have := HL.out; omega)]
      unfold idxNew
      rw [hfi, if_neg (by omega)]
      rfl
end Go.Proofs.YtkjpfjgaabbggaaDoor
