/- trail.copied: the contract. -/
import Derived.Test.YtkjpfjgaabbggaaDoorTClone
import Derived.Test.YtkjpfjgaabbggaaDoorTEnt
import Derived.Deep.LoopGhost
set_option linter.unusedVariables false
set_option linter.unusedSimpArgs false
namespace Go.Proofs.YtkjpfjgaabbggaaDoor
open Go.RowKit

/-- a store into a row that is owned -/
theorem own_set {w : World} {base g : Nat} {e : TypeId} {size n cap : Nat} {xs : List Value} (h : w.ownsRow base e size (.slice (some ⟨g, 0, none⟩) n cap) n xs) (j : Nat) (u : Value) (hj : j < n * size) :
    (w.setCell ⟨g, j, none⟩ u).ownsRow base e size (.slice (some ⟨g, 0, none⟩) n cap) n (xs.set j u) := by
  rcases h.2 with ⟨h1, _⟩ | ⟨g', cap', cur, h1, hb, hh, r1, r2, r3, r4⟩
  · cases h1
  · cases h1
    refine ⟨by simp [h.1], .inr ⟨g, cap, cur.setIfInBounds j u, rfl, hb, heap_setCell_same _ _ _ _ _ _ hh, r1, r2, by simpa using r3, ?_⟩⟩
    rw [Array.toList_setIfInBounds, List.take_set, r4]
theorem own_head {w : World} {base : Nat} {e : TypeId} {size n : Nat} {v : Value} {xs : List Value} (h : w.ownsRow base e size v n xs) (h0 : 0 < n) : ∃ g cap, v = .slice (some ⟨g, 0, none⟩) n cap ∧ n ≤ cap ∧ base ≤ g ∧ g < w.heap.size := by
  rcases h.2 with ⟨_, h1⟩ | ⟨g', cap', cur, h1, hb, hh, r1, _⟩
  · omega
  · exact ⟨g', cap', h1, r1, hb, (Array.getElem?_eq_some_iff.1 hh).1⟩

set_option maxRecDepth 100000 in
set_option maxHeartbeats 1000000 in
theorem copied_any (A : Option Addr) (len c : Nat) (es : List Ent) (Ds : List Value) (w : World) (h : RE w A es Ds) (hl : es.length = len) (hA : A = none → len = 0) (hn : len ≤ 4200000000000) :
    Calls Tryd.prog 32 #[.slice A len c] w fun e w' => ∃ v Ds', e = .returned v ∧ OE w' w.heap.size v es Ds' ∧ Below w.heap.size w w' := by
  go_enter Tryd.func32, Tryd.ntmps32
  go_wp2_with fail
  refine (clonee_any A len c es Ds w h hl hA hn).mono ?_
  rintro e w1 ⟨v, rfl, own, b1, _⟩
  obtain ⟨S, cS, rfl, hcS, _⟩ := own_shape own
  go_wp2_with fail
  have HRE := Lib.hid h
  have HL := Lib.hid hl
  have hDl := Lib.hid h.1
  have HA := Lib.hid hA
  clear h hl hA
  go_loopg [9] len (fun m ti wr => ∃ (k : Nat) (Ds' : List Value), m = len - k ∧ k ≤ len ∧ ti = .int .i64 k ∧ Hid (Ds'.length = es.length) ∧ wr.ownsRow w.heap.size 44 4 (.slice S len cS) len (ecells es Ds') ∧ Below w.heap.size w wr ∧ Hid (∀ j (h1 : j < es.length) (h2 : j < Ds'.length) (h3 : j < Ds.length), if j < k then OD wr w.heap.size Ds'[j] es[j].d else Ds'[j] = Ds[j]))
  case atStart =>
    exact ⟨0, Ds, by omega, by omega, rfl, HRE.out.1, own, b1, fun j h1 h2 h3 => by simp⟩
  case round =>
    obtain ⟨k, Ds', hm, hk, rfl, hD', ownr, bel, hds⟩ := hrel
    by_cases hkl : k < len
    · have hkl1 : (k : Int) < (len : Int) := by omega
      obtain ⟨g, cap, hS, hcap, hg1, hg2⟩ := own_head ownr (by omega)
      cases hS
      have e1 : k < es.length := by rw [HL.out]; exact hkl
      have e2 : k < Ds'.length := by rw [hD'.out]; exact e1
      have e3 : k < Ds.length := by rw [hDl.out]; exact e1
      have hDk : Ds'[k] = Ds[k] := by have := hds.out k e1 e2 e3; rwa [if_neg (by omega)] at this
      have hrd := (HRE.out.2.2 k e1 e3).below bel
      have g3 := (ecells_get hD'.out k e1 e2).2.2.2
      obtain ⟨hce, hfz⟩ := own_cell ownr _ _ g3
      rw [hDk] at hce
      obtain ⟨D, hDD⟩ : ∃ D, D = Ds[k] := ⟨_, rfl⟩
      obtain ⟨d, hdd⟩ : ∃ d, d = es[k].d := ⟨_, rfl⟩
      rw [← hDD] at hce hrd
      rw [← hdd] at hrd
      have HDD := Lib.hid hDD
      have Hdd := Lib.hid hdd
      clear hDk g3 hDD hdd
      go_wp2_with fail
      refine (cloneb_any D d wr hrd).mono ?_
      rintro e w2 ⟨D', rfl, od, b2⟩
      have hce2 := below_cell b2 hce
      have hfz2 : w2.frozen? ⟨g, k * 4 + 3, none⟩ = false := by rw [← hfz]; exact b2.frozen (p := ⟨g, k * 4 + 3, none⟩) hg2
      have own2 := own_below ownr b2
      obtain ⟨B', c', hDs, _⟩ := own_shape od.1
      subst hDs
      have HOD := Lib.hid od
      clear hce hfz od hrd ownr
      go_wp2_with fail
      go_roundg (len - (k + 1))
      case measure => omega
      case rel =>
        have hset := own_set own2 (k * 4 + 3) (.slice B' d.length c') (by omega)
        rw [ecells_set _ _ hD'.out] at hset
        have bel2 := below_then bel bel.size b2
        refine ⟨k + 1, Ds'.set k (.slice B' d.length c'), rfl, by omega, by go_num, Lib.hid (by simpa using hD'.out), hset, bel2.setCell hg1 _, fun j h1 h2 h3 => ?_⟩
        have hgD : ∀ (n : Nat) (v : Value) (x : List UInt8), OD w2 n v x → OD (w2.setCell ⟨g, k * 4 + 3, none⟩ (.slice B' d.length c')) n v x := fun n v x hx => by
          refine ⟨own_step hx.1 fun q hq => heap_setCell_other _ _ _ _ fun e => ?_, hx.2⟩
          subst e
          exact row_types hx.1 own2 (by decide) _ hq rfl
        by_cases hjk : j = k
        · subst hjk
          rw [if_pos (by omega)]
          simp only [List.getElem_set_self]
          rw [← Hdd.out]
          have := hgD _ _ _ HOD.out
          exact ⟨own_lower this.1 bel.size, this.2⟩
        · have h2' : j < Ds'.length := by simpa using h2
          have hj := hds.out j h1 h2' h3
          rw [List.getElem_set_ne (fun e => hjk e.symm)]
          by_cases hj2 : j < k
          · rw [if_pos (by omega)]
            rw [if_pos hj2] at hj
            exact hgD _ _ _ ⟨own_below hj.1 b2, hj.2⟩
          · rw [if_neg (by omega)]
            rw [if_neg hj2] at hj
            exact hj
    · obtain rfl : k = len := by omega
      go_wp2_with fail
      go_ret
      refine ⟨_, Ds', rfl, ⟨hD'.out, by rw [HL.out]; exact ownr, fun i h1 h2 => ?_⟩, bel⟩
      have := hds.out i h1 h2 (by rw [hDl.out]; exact h1)
      rwa [if_pos (by rw [← HL.out]; exact h1)] at this
end Go.Proofs.YtkjpfjgaabbggaaDoor
